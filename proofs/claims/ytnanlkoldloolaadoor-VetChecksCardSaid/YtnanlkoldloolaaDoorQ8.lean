/- Locs: a number's bytes, as the document has them. -/
import Derived.Test.YtnanlkoldloolaaDoorQ1
import Derived.Test.YtnanlkoldloolaaDoorQ0
import Derived.Below
import Derived.KernelRfl
import Derived.Test.YtnanlkoldloolaaDoorQ5
import Derived.Lib.SlBytesConst
import Derived.Test.YtnanlkoldloolaaDoorQ2
import Derived.Test.YtnanlkoldloolaaDoorQ7
namespace Go.Proofs.YtnanlkoldloolaaDoor
open Go.RowKit

theorem infoY : (Tryd.prog.info? 5).map (fun i => (i.zero, i.size, i.bytes)) = some (some (.int .u8 0), 1, 1) := by kernel_rfl
theorem infoY_parts {i : Option TypeInfo} {z : Value} {s b : Nat} (h : i.map (fun i => (i.zero, i.size, i.bytes)) = some (some z, s, b)) : ∃ x, i = some x ∧ x.zero = some z ∧ x.size = s ∧ x.bytes = b := by
  cases i with
  | none => simp at h
  | some x => simp at h; exact ⟨x, rfl, h.1, h.2.1, h.2.2⟩
def ownY (w : World) (base : Nat) (v : Value) (l : List Int) : Prop := ownG w base 5 1 v l.length (l.map (Value.int .u8))
theorem ownY_grow {w : World} {base : Nat} {v : Value} {l : List Int} {n : Nat} {x : List Int} (h : ownG w base 5 1 v n (l.map (Value.int .u8) ++ x.map (Value.int .u8))) (hn : n = l.length + x.length) : ownY w base v (l ++ x) := by
  subst hn; simpa [ownY] using h
theorem ownY_lit0 (w : World) (base : Nat) (l : List Int) (hb : base ≤ w.heap.size) (hl : l.length ≤ 1000) :
    (w.alloc (.cells (l.map (Value.int .u8)).toArray 5)).ownsRow base 5 1 (.slice (some ⟨w.heap.size, 0, none⟩) l.length l.length) l.length (l.map (Value.int .u8)) := by
  have := World.ownsRow_lit (e := 5) (size := 1) w (l.map (Value.int .u8)).toArray l.length hb (by unfold maxLen; omega) (by simp)
  simpa using this
theorem ownY_lit (w : World) (base : Nat) (l : List Int) (hb : base ≤ w.heap.size) (hl : l.length ≤ 1000) :
    ownY (w.alloc (.cells (l.map (Value.int .u8)).toArray 5)) base (.slice (some ⟨w.heap.size, 0, none⟩) l.length l.length) l := .inl (ownY_lit0 w base l hb hl)
/-- A constant's bytes. -/
theorem ownY_const (w : World) (base : Nat) (l : List Int) (f : Nat × Nat) (hb : base ≤ w.heap.size) (hl : l.length ≤ 1000) {g : Nat} (hg : g = w.heap.size) :
    ownY (w.alloc (.cells (l.map (Value.int .u8)).toArray 5 f)) base (.slice (some ⟨g, 0, none⟩) l.length l.length) l := by
  subst hg
  exact .inr ⟨by simp, w.heap.size, _, f, rfl, hb, heap_new w _ rfl, by unfold maxLen; omega, by simp⟩
theorem ownY.rd {w : World} {base : Nat} {v : Value} {l : List Int} (h : ownY w base v l) : RdB w v l := ownG_rd h

/-- A number's bytes, the greatest first, none at 0. -/
def beB (n : Nat) : List Int := if n = 0 then [] else beB (n / 256) ++ [((n % 256 : Nat) : Int)]
theorem beB_zero : beB 0 = [] := by unfold beB; simp
theorem beB_pos {n : Nat} (h : 0 < n) : beB n = beB (n / 256) ++ [((n % 256 : Nat) : Int)] := by
  conv => lhs; unfold beB
  rw [if_neg (by omega)]
theorem beB_isB : ∀ n, isB (beB n) := by
  intro n
  induction n using Nat.strongRecOn with
  | _ n ih =>
    by_cases h : n = 0
    · subst h; rw [beB_zero]; exact fun x hx => by cases hx
    · rw [beB_pos (by omega)]
      intro x hx
      rcases List.mem_append.1 hx with h1 | h1
      · exact ih _ (by omega) x h1
      · simp at h1; omega
theorem beB_len : ∀ (k n : Nat), n < 256 ^ k → (beB n).length ≤ k
  | 0, n, h => by simp at h; subst h; rw [beB_zero]; simp
  | k + 1, n, h => by
    by_cases h0 : n = 0
    · subst h0; rw [beB_zero]; simp
    · rw [beB_pos (by omega), List.length_append]
      have := beB_len k (n / 256) (by rw [Nat.pow_succ] at h; omega)
      simp; omega
theorem beB_val : ∀ n, beL (beB n) = n := by
  intro n
  induction n using Nat.strongRecOn with
  | _ n ih =>
    by_cases h : n = 0
    · subst h; rw [beB_zero]; rfl
    · rw [beB_pos (by omega), beL_snoc, ih _ (by omega)]; omega
/-- A number as it is written. -/
def numW (n : Nat) : List Int := if n ≤ 247 then [(n : Int)] else (247 + (beB n).length : Int) :: beB n

set_option maxHeartbeats 4000000 in
theorem number_ref (n : Nat) (w : World) (hn : n < 18446744073709551616) :
   Calls Tryd.prog 46 #[.int .u64 n] w fun e w' => ∃ v, e = .returned v ∧ ownY w' w.heap.size v (numW n) ∧ Below w.heap.size w w' := by
  obtain ⟨i0, hi, hz0, hz1, hz2⟩ := infoY_parts infoY
  have HI : Hid _ := And.intro hi (And.intro hz0 (And.intro hz1 hz2))
  clear hi hz0 hz1 hz2
  by_cases hs : n ≤ 247
  · have HN : Hid (numW n = [(n : Int)]) := by show _ = _; unfold numW; rw [if_pos hs]
    go_enter Tryd.func46, Tryd.ntmps46
    go_wp2_with fail
    go_ret
    refine ⟨_, rfl, ?_, (Below.refl _ _).alloc (Nat.le_refl _) _⟩
    rw [HN.out]
    exact ownY_lit w w.heap.size [(n : Int)] (Nat.le_refl _) (by simp)
  · have HN : Hid (numW n = (247 + (beB n).length : Int) :: beB n) := by show _ = _; unfold numW; rw [if_neg hs]
    have hlen : (beB n).length ≤ 8 := beB_len 8 n (by omega)
    have HLN := Lib.hid hlen
    clear hlen
    go_enter Tryd.func46, Tryd.ntmps46
    go_wp2_with fail
    go_loopw [0, 3] (fun a v wr => ∃ (m : Nat) (q : List Int), a = .int .u64 m ∧ m ≤ n ∧ beB n = beB m ++ q ∧ ownY wr w.heap.size v q ∧ Below w.heap.size w wr) (fun a _ _ => (intOf a).toNat)
    case atStart => exact ⟨n, [], rfl, Nat.le_refl _, by simp, (.inl ⟨rfl, .inl ⟨rfl, rfl⟩⟩), Below.refl _ _⟩
    case round =>
      obtain ⟨m, q, rfl, hmn, hq, hown, hbel⟩ := hrel
      have hw : w.heap.size ≤ wr.heap.size := hbel.size
      have HB := Lib.hid hbel
      have HO := Lib.hid hown
      have HQ := Lib.hid hq
      have hql : q.length ≤ 8 := by have := HLN.out; rw [hq, List.length_append] at this; omega
      clear hbel hown hq
      by_cases hm : m = 0
      · subst hm
        obtain ⟨a, c, rfl⟩ := Rd.shape HO.out.rd
        have e1 : (256 : Int) ≠ 0 := by omega
        go_wp2_with (at_builtin; refine wpList_append_own_g _ rfl _ _ 24 rfl w.heap.size 5 i0 (.int .u8 0) 1 1 Tryd.underlying24 HI.out.1 HI.out.2.1 HI.out.2.2.1 HI.out.2.2.2 rfl (by decide) _ _ _ rfl (ownY_lit0 wr w.heap.size [247 + (q.length : Int)] hw (by simp)) _ _ _ rfl (HO.out.rd.alloc _) (ints_oneCell .u8 _) (1 + q.length) rfl (by omega) (by unfold maxLen; omega) (by omega) (by simp; omega) ?_; intro g cap w1 hown1 hgrow1)
        go_ret
        have e2 : ((1 + q.length : Nat)) = ((247 + (q.length : Int)) :: q).length := by simp; omega
        refine ⟨_, rfl, ?_, (HB.out.alloc hw _).grown hgrow1 (by simp; omega) (fun k hk => by cases hk; exact hw)⟩
        rw [HN.out, HQ.out, beB_zero, List.nil_append]
        refine .inl ?_
        rw [← e2]
        exact hown1
      · go_wp2_with (at_builtin; refine wpList_append_own_g _ rfl _ _ 24 rfl w.heap.size 5 i0 (.int .u8 0) 1 1 Tryd.underlying24 HI.out.1 HI.out.2.1 HI.out.2.2.1 HI.out.2.2.2 rfl (by decide) _ _ _ rfl (ownY_lit0 wr w.heap.size [((m % 256 : Nat) : Int)] hw (by simp)) _ _ _ rfl (HO.out.rd.alloc _) (ints_oneCell .u8 _) (1 + q.length) rfl (by omega) (by unfold maxLen; omega) (by omega) (by simp; omega) ?_; intro g cap w1 hown1 hgrow1)
        refine ⟨⟨m / 256, ((m % 256 : Nat) : Int) :: q, by congr 1, by omega, ?_, ?_, (HB.out.alloc hw _).grown hgrow1 (by simp; omega) (fun k hk => by cases hk; exact hw)⟩, by simp only [intOf]; omega⟩
        · rw [HQ.out, beB_pos (by omega : 0 < m), List.append_assoc]; rfl
        · have e2 : ((1 + q.length : Nat)) = (((m % 256 : Nat) : Int) :: q).length := by simp; omega
          refine .inl ?_
          rw [← e2]
          exact hown1
end Go.Proofs.YtnanlkoldloolaaDoor

/- Locs: the document's writer: numbers one behind the other. -/
namespace Go.Proofs.YtnanlkoldloolaaDoor
open Go.RowKit

/-- An object that is no row of bytes. -/
def notY (o : Obj) : Prop := ∀ c f, o ≠ .cells c 5 f
theorem notY_cells {c : Array Value} {t : TypeId} {f : Nat × Nat} (h : t ≠ 5) : notY (.cells c t f) := fun c' f' e => by cases e; exact h rfl

/-- One who writes turns: his own object, and the bytes behind it. -/
structure TW (base wb : Nat) (w w' : World) (o : Obj) (pv : Value) (L : List Int) : Prop where
  at_ : w'.heap[wb]? = some o
  own : ownY w' base pv L
  bel : Below base w w'
  grew : w.heap.size ≤ w'.heap.size
  oth : ∀ j ob, w.heap[j]? = some ob → notY ob → j ≠ wb → w'.heap[j]? = some ob
theorem TW.refl {base wb : Nat} {w : World} {o : Obj} {pv : Value} {L : List Int} (h1 : w.heap[wb]? = some o) (h2 : ownY w base pv L) : TW base wb w w o pv L :=
  ⟨h1, h2, Below.refl _ _, Nat.le_refl _, fun _ _ h _ _ => h⟩
theorem TW.trans {base wb : Nat} {w w1 w2 : World} {o o' : Obj} {pv pv' : Value} {L L' : List Int} (h : TW base wb w w1 o pv L) (k : TW base wb w1 w2 o' pv' L') : TW base wb w w2 o' pv' L' :=
  ⟨k.at_, k.own, h.bel.trans k.bel, Nat.le_trans h.grew k.grew, fun j ob hj hn hne => k.oth j ob (h.oth j ob hj hn hne) hn hne⟩
/-- New memory behind a turn. -/
theorem TW.later {base wb : Nat} {w w1 w2 : World} {o : Obj} {pv : Value} {L : List Int} (h : TW base wb w w1 o pv L) (hb : Below w1.heap.size w1 w2) (hbase : base ≤ w1.heap.size) : TW base wb w w2 o pv L :=
  ⟨(hb.block wb (heap_lt h.at_)).trans h.at_, ownG_later h.own hb, h.bel.trans (hb.mono hbase), Nat.le_trans h.grew hb.size, fun j ob hj hn hne => by
    have := h.oth j ob hj hn hne
    exact (hb.block j (heap_lt this)).trans this⟩

/-- The bytes grow. -/
theorem TW.append {base wb : Nat} {w w1 w2 : World} {o : Obj} {pv v2 : Value} {L q : List Int} {n : Nat} (h : TW base wb w w1 o pv L) (ho : notY o) (hb : base ≤ w1.heap.size) (hown : ownG w2 base 5 1 v2 n (L.map (Value.int .u8) ++ q.map (Value.int .u8))) (hn : n = L.length + q.length) (hg : w1.grownBy w2 pv.ownBlock) : TW base wb w w2 o v2 (L ++ q) := by
  have hap : ∀ j ob, w1.heap[j]? = some ob → notY ob → w2.heap[j]? = some ob := fun j ob hj hnj => by
    rw [hg.block j (heap_lt hj) (fun e => ?_)]; exact hj
    obtain ⟨_, cur, f, hc⟩ := ownG_blk h.own j e.symm
    rw [hj] at hc
    exact hnj _ _ (Option.some.inj hc)
  refine ⟨hap _ _ h.at_ ho, ownY_grow hown hn, h.bel.grown hg hb (fun k hk => (ownG_blk h.own k hk).1), Nat.le_trans h.grew hg.size, fun j ob hj hnj hne => hap _ _ (h.oth j ob hj hnj hne) hnj⟩
/-- His own object is written. -/
theorem TW.put {base wb : Nat} {w w1 : World} {c : Array Value} {t : TypeId} {f : Nat × Nat} {pv : Value} {L : List Int} (h : TW base wb w w1 (.cells c t f) pv L) (ht : t ≠ 5) (hb : base ≤ wb) (i : Nat) (u : Value) : TW base wb w (w1.setCell ⟨wb, i, none⟩ u) (.cells (c.setIfInBounds i u) t f) pv L := by
  refine ⟨?_, ownG_same h.own (fun k hk => Below.heap_setCell _ _ _ _ ?_), h.bel.setCell hb _, by rw [World.size_setCell]; exact h.grew, fun j ob hj hnj hne => (Below.heap_setCell _ _ _ _ hne).trans (h.oth j ob hj hnj hne)⟩
  · simp [World.setCell, Array.getElem?_modify, h.at_]
  · intro e
    simp only at e
    subst e
    exact ownG_apart h.own h.at_ (Ne.symm ht) hk

abbrev WO (pv : Value) : Obj := .cells #[pv] 103
theorem wo_cells {w : World} {b : Nat} {pv : Value} (h : w.heap[b]? = some (WO pv)) : w.cell? ⟨b, 0, none⟩ = some pv ∧ w.frozen? ⟨b, 0, none⟩ = false := by
  simp [World.cell?, World.frozen?, h]

/-- Numbers as they are written. -/
def numsW (l : List Int) : List Int := l.flatMap fun x => numW x.toNat
theorem numsW_snoc (l : List Int) (x : Int) : numsW (l ++ [x]) = numsW l ++ numW x.toNat := by simp [numsW]
theorem numW_len (n : Nat) (h : n < 18446744073709551616) : (numW n).length ≤ 9 := by
  unfold numW
  split
  · simp
  · have := beB_len 8 n (by omega); simp; omega
theorem numsW_len : ∀ (l : List Int), (∀ x ∈ l, x < 18446744073709551616) → (numsW l).length ≤ 9 * l.length
  | [], _ => by simp [numsW]
  | x :: r, h => by
    have ih := numsW_len r (fun y hy => h y (by simp [hy]))
    have := numW_len x.toNat (by have := h x (by simp); omega)
    simp only [numsW, List.flatMap_cons, List.length_append, List.length_cons] at *
    omega

set_option maxRecDepth 100000 in
set_option maxHeartbeats 4000000 in
theorem writer_n (base wb : Nat) (pv : Value) (L : List Int) (v : Value) (l : List Int) (w : World) (hbw : base ≤ wb) (hat : w.heap[wb]? = some (WO pv)) (hown : ownY w base pv L) (hv : RdI w v l) (hl : ∀ x ∈ l, 0 ≤ x ∧ x ≤ 9223372036854775807) (hbd : L.length + 9 * l.length ≤ 140737488355328)
   (hvn : ∀ k, v.ownBlock = some k → k ≠ wb ∧ ∃ ob, w.heap[k]? = some ob ∧ notY ob) :
   Calls Tryd.prog 36 #[.pointer (some ⟨wb, 0, none⟩), v] w fun e w' => e = .returned (.tuple #[]) ∧ ∃ pv', TW base wb w w' (WO pv') pv' (L ++ numsW l) := by
  obtain ⟨i0, hi, hz0, hz1, hz2⟩ := infoY_parts infoY
  have HI : Hid _ := And.intro hi (And.intro hz0 (And.intro hz1 hz2))
  clear hi hz0 hz1 hz2
  have T0 := Lib.hid (TW.refl hat hown)
  rcases hv.split with ⟨a, c, rfl, rfl⟩ | ⟨b, off, c, rfl, hp, hlc, hc9, hb, hcell⟩
  · clear hv hown hat hvn hl
    go_enter Tryd.func36, Tryd.ntmps36
    go_wp2_with fail
    refine wp_loop_rounds 1 ?_
    rw [rounds_succ]
    go_wp2_with fail
    go_end0
    exact ⟨rfl, pv, by simpa [numsW] using T0.out⟩
  · obtain ⟨hbne, ob, hbo, hbn⟩ := hvn b rfl
    have HC := Lib.hid hcell
    have HL := Lib.hid hl
    have HBO := Lib.hid hbo
    have hwb := heap_lt hat
    clear hv hown hat hvn hcell hl hbo
    go_enter Tryd.func36, Tryd.ntmps36
    go_wp2_with fail
    go_loopw [8] (fun i wr => ∃ (j : Nat) (pv' : Value), j ≤ l.length ∧ i = .int .i64 j ∧ TW base wb w wr (WO pv') pv' (L ++ numsW (l.take j))) (fun i _ => l.length - (intOf i).toNat)
    case atStart => exact ⟨0, pv, by omega, rfl, by simpa [numsW] using T0.out⟩
    case round =>
      obtain ⟨j, pv', hj, rfl, ht⟩ := hrel
      have HT := Lib.hid ht
      have hbr := ht.oth b ob HBO.out hbn hbne
      have hcb : ∀ o, wr.cell? ⟨b, o, none⟩ = w.cell? ⟨b, o, none⟩ := fun o => World.cell?_of_block (hbr.trans HBO.out.symm)
      obtain ⟨k0, z0⟩ := wo_cells ht.at_
      by_cases hlt : j < l.length
      · have d0 := HC.out j hlt
        rw [← hcb] at d0
        have hx := HL.out _ (List.getElem_mem hlt)
        clear hcb hbr ht
        obtain ⟨x, hxe⟩ : ∃ x : Nat, l[j] = x := ⟨l[j].toNat, by omega⟩
        rw [hxe] at d0 hx
        have HX := Lib.hid hxe
        clear hxe
        have hwx : IntKind.u64.wrap (x : Int) = x := by rw [IntKind.wrap_u64]; omega
        have HNU := Lib.hid (fun W => number_ref x W (by omega))
        have hln := numW_len x (by omega)
        have hlL : (L ++ numsW (l.take j)).length + 9 ≤ 140737488355328 := by
          have h1 := numsW_len (l.take j) (fun y hy => by have := HL.out y (List.mem_of_mem_take hy); omega)
          rw [List.length_take] at h1
          rw [List.length_append]; omega
        obtain ⟨M, hM⟩ : ∃ M, L ++ numsW (l.take j) = M := ⟨_, rfl⟩
        have HM : Hid (L ++ numsW (l.take (j + 1)) = M ++ numW x) := by
          show _ = _
          rw [List.take_succ_eq_append_getElem hlt, numsW_snoc, ← List.append_assoc, hM, HX.out]; rfl
        rw [hM] at hlL HT
        clear hM
        have hbr2 : base ≤ wr.heap.size := by have := HT.out.grew; omega
        obtain ⟨pa, pc, rfl⟩ := (HT.out.own.rd).shape
        have b1 : M.length + (numW x).length ≤ maxLen := by unfold maxLen; omega
        have b2 : (M.length + (numW x).length) * 1 ≤ 140737488355328 := by omega
        have mixed : Tryd.prog.follows Departure.mixedOrders = true := by kernel_rfl
        go_wp2_with fail
        go_region_law (first
          | (go_simp; go_at_call 46; refine (HNU.out _).mono ?_; rintro e w3 ⟨v3, rfl, hown3, hb3⟩; have HT3 := Lib.hid (HT.out.later ((Below.refl _ _).drew.trans hb3) hbr2); have HR3 := Lib.hid hown3.rd; have BB := Lib.hid (Nat.le_trans hbr2 hb3.size); have k3 := (wo_cells HT3.out.at_).1)
          | (refine step_append_ownG_rd rfl _ _ 24 rfl base 5 i0 (.int .u8 0) 1 1 Tryd.underlying24 HI.out.1 HI.out.2.1 HI.out.2.2.1 HI.out.2.2.2 rfl (by decide) _ M.length (M.map (Value.int .u8)) rfl HT3.out.own _ (numW x).length ((numW x).map (Value.int .u8)) rfl HR3.out (ints_oneCell .u8 _) b1 b2 BB.out ?_; intro v2 w2 hown2 hgrow2; have HT4 := Lib.hid (HT3.out.append (notY_cells (by decide)) BB.out hown2 rfl hgrow2); have k4 := (wo_cells HT4.out.at_).1; have z4 := (wo_cells HT4.out.at_).2; obtain ⟨va, vc, rfl⟩ := (ownG_rd hown2).shape))
        all_goals go_wp2_with fail
        all_goals exact ⟨⟨j + 1, _, by omega, by go_num, by rw [HM.out]; exact HT4.out.put (by decide) hbw 0 _⟩, by simp [intOf]; omega⟩
      · obtain rfl : j = l.length := by omega
        clear hcb hbr ht
        go_wp2_with fail
        go_end0
        exact ⟨rfl, pv', by have := HT.out; rwa [List.take_length] at this⟩
/-- Of numbers that are laid for the call. -/
theorem writer_lit (base wb : Nat) (W : World) (pv : Value) (L : List Int) (hat : W.heap[wb]? = some (WO pv)) (hown : ownY W base pv L) (hbw : base ≤ wb) (hbw2 : base ≤ W.heap.size) (xs : List Int) (hl : ∀ x ∈ xs, 0 ≤ x ∧ x ≤ 9223372036854775807) (h1 : xs.length ≤ 1000) (hbd : L.length + 9 * xs.length ≤ 140737488355328) :
   Calls Tryd.prog 36 #[.pointer (some ⟨wb, 0, none⟩), .slice (some ⟨W.heap.size, 0, none⟩) xs.length xs.length] (W.alloc (.cells (xs.map (Value.int .i64)).toArray 3)) fun e w' => e = .returned (.tuple #[]) ∧ ∃ pv', TW base wb W w' (WO pv') pv' (L ++ numsW xs) := by
  have h := TW.refl hat hown
  have hb : Below W.heap.size W (W.alloc (.cells (xs.map (Value.int .i64)).toArray 3)) := (Below.refl _ _).alloc (Nat.le_refl _) _
  have h2 := h.later hb hbw2
  have hlt := heap_lt h.at_
  have hnew := heap_new W (.cells (xs.map (Value.int .i64)).toArray 3) rfl
  refine (writer_n base wb pv L _ xs _ hbw h2.at_ h2.own (Rd.mk (by simp) (Nat.le_refl _) (by unfold maxLen; omega) (fun j hj => ?_)) hl hbd (fun k hk => ?_)).mono ?_
  · simp only [World.cell?, hnew]
    simp
  · simp [Value.ownBlock] at hk
    subst hk
    exact ⟨by omega, _, hnew, notY_cells (by decide)⟩
  · rintro e w' ⟨rfl, pv', ht⟩
    exact ⟨rfl, pv', h2.trans ht⟩

end Go.Proofs.YtnanlkoldloolaaDoor

/- Locs: the document's bytes of nothing. -/
namespace Go.Proofs.YtnanlkoldloolaaDoor
open Go.RowKit

set_option maxRecDepth 100000 in
set_option maxHeartbeats 4000000 in
theorem encode_empty (w : World) :
   Calls Tryd.prog 25 #[.agg #[.slice none 0 0, .slice none 0 0, .slice none 0 0]] w fun e w' => (∃ v, e = .returned v ∧ ownY w' w.heap.size v [84, 83, 76, 49, 0, 0, 0]) ∧ Below w.heap.size w w' := by
  have kc := Lib.run_convert_bytes_const (P := Tryd.prog) (w.alloc (.cells #[.slice none 0 0, .slice none 0 0, .slice none 0 0] 64)) 24 5 #[.int .u8 84, .int .u8 83, .int .u8 76, .int .u8 49] 4 4 Tryd.underlying24 Tryd.underlying5
  rw [World.size_alloc] at kc
  obtain ⟨W, hW⟩ : ∃ W, W = (((w.alloc (.cells #[.slice none 0 0, .slice none 0 0, .slice none 0 0] 64)).alloc (.cells #[.int .u8 84, .int .u8 83, .int .u8 76, .int .u8 49] 5 (4, 5))).alloc (WO (.slice (some ⟨w.heap.size + 1, 0, none⟩) 4 4))) := ⟨_, rfl⟩
  have HW0 := Lib.hid hW
  have T0 : Hid (TW w.heap.size (w.heap.size + 1 + 1) w W (WO (.slice (some ⟨w.heap.size + 1, 0, none⟩) 4 4)) (.slice (some ⟨w.heap.size + 1, 0, none⟩) 4 4) [84, 83, 76, 49]) := by
    rw [hW]
    refine ⟨heap_new _ _ (by simp), ownG_later (ownY_const (w.alloc (.cells #[.slice none 0 0, .slice none 0 0, .slice none 0 0] 64)) w.heap.size [84, 83, 76, 49] (4, 5) (by simp) (by simp) (by simp)) ((Below.refl _ _).alloc (Nat.le_refl _) _), (((Below.refl _ _).alloc (Nat.le_refl _) _).alloc (by simp) _).alloc (by simp; omega) _, by simp; omega, fun j ob hj _ _ => heap_old _ _ (heap_old _ _ (heap_old _ _ hj))⟩
  have hd0 : W.heap[w.heap.size]? = some (.cells #[.slice none 0 0, .slice none 0 0, .slice none 0 0] 64) := by rw [hW]; exact heap_old _ _ (heap_old _ _ (heap_new _ _ rfl))
  have hsz : W.heap.size = w.heap.size + 1 + 1 + 1 := by rw [hW]; simp
  have C1 := Lib.hid (writer_lit _ _ W _ _ T0.out.at_ T0.out.own (by omega) (by omega) [0] (by simp) (by simp) (by simp))
  rw [hsz, hW] at C1
  clear hW
  go_enter Tryd.func25, Tryd.ntmps25
  go_wp2_with fail
  refine C1.out.mono ?_
  rintro e w1 ⟨rfl, pv1, ht1⟩
  rw [← HW0.out] at ht1
  have T1 := Lib.hid (T0.out.trans ht1)
  have e1 : w1.cell? ⟨w.heap.size, 0, none⟩ = some (.slice none 0 0) ∧ w1.cell? ⟨w.heap.size, 1, none⟩ = some (.slice none 0 0) ∧ w1.cell? ⟨w.heap.size, 2, none⟩ = some (.slice none 0 0) := by
    have h := ht1.oth _ _ hd0 (notY_cells (by decide)) (by omega)
    simp [World.cell?, h]
  obtain ⟨e10, e11, e12⟩ := e1
  have h1 := ht1.oth _ _ hd0 (notY_cells (by decide)) (by omega)
  have hs1 := T1.out.grew
  have C2 := Lib.hid (writer_lit _ _ w1 _ _ T1.out.at_ T1.out.own (by omega) (by omega) [0] (by simp) (by simp) (by simp [numsW, numW]))
  have hl1 := heap_lt h1
  clear C1 ht1 kc HW0
  go_wp2_with fail
  refine wp_loop_rounds 1 ?_
  rw [rounds_succ]
  go_wp2_with fail
  refine C2.out.mono ?_
  rintro e w2 ⟨rfl, pv2, ht2⟩
  have T2 := Lib.hid ht2
  have T2 := Lib.hid (T1.out.trans ht2)
  have h2 := ht2.oth _ _ h1 (notY_cells (by decide)) (by omega)
  have e2 : w2.cell? ⟨w.heap.size, 2, none⟩ = some (.slice none 0 0) := by simp [World.cell?, h2]
  have e21 : w2.cell? ⟨w.heap.size, 1, none⟩ = some (.slice none 0 0) := by simp [World.cell?, h2]
  have hs2 := T2.out.grew
  have hl2 := heap_lt h2
  have C3 := Lib.hid (writer_lit _ _ w2 _ _ T2.out.at_ T2.out.own (by omega) (by omega) [0] (by simp) (by simp) (by simp [numsW, numW]))
  clear C2 ht2 e10 e11 e12 h1
  go_wp2_with fail
  refine wp_loop_rounds 1 ?_
  rw [rounds_succ]
  go_wp2_with fail
  refine C3.out.mono ?_
  rintro e w3 ⟨rfl, pv3, ht3⟩
  have T3 := Lib.hid (T2.out.trans ht3)
  have h3 := ht3.oth _ _ h2 (notY_cells (by decide)) (by omega)
  have e3 : w3.cell? ⟨w.heap.size, 2, none⟩ = some (.slice none 0 0) := by simp [World.cell?, h3]
  have k3 := (wo_cells T3.out.at_).1
  clear C3 ht3 e2 e21
  go_wp2_with fail
  refine wp_loop_rounds 1 ?_
  rw [rounds_succ]
  go_wp2_with fail
  go_ret
  exact ⟨⟨_, rfl, by simpa [numsW, numW] using T3.out.own⟩, T3.out.bel⟩
end Go.Proofs.YtnanlkoldloolaaDoor

/- The document's reader: a number. -/
namespace Go.Proofs.YtnanlkoldloolaaDoor
open Go.RowKit

/-- A number off the front, its bytes as many or as few as there are. -/
def numP (l : List Int) (a : Nat) : Option (Int × Nat) :=
  if a < l.length then
    if l.getD a 0 ≤ 247 then some (l.getD a 0, a + 1)
    else if a + 1 + (l.getD a 0 - 247).toNat ≤ l.length then some (beL (bytesAt l (a + 1) (l.getD a 0 - 247).toNat), a + 1 + (l.getD a 0 - 247).toNat)
    else none
  else none
/-- One who reads goes on, or has failed. -/
def rdN (num : PR Int) : Option Nat → Int × Option Nat
  | none => (0, none)
  | some a => match num a with | some (n, b) => (n, some b) | none => (0, none)

theorem rd_empty {w w' : World} {size : Nat} {v : Value} {n : Nat} (h : Rd w size v n []) (hs : 0 < size) : Rd w' size v n [] := by
  have h0 : n = 0 := by
    have h1 : n * size = 0 := h.1.symm
    rcases Nat.mul_eq_zero.1 h1 with h2 | h2 <;> omega
  subst h0
  rcases h.2 with ⟨h1, h2⟩ | ⟨a, c, h1, h2, h3, h4⟩
  · exact ⟨by simp, .inl ⟨h1, h2⟩⟩
  · exact ⟨by simp, .inr ⟨a, c, h1, h2, h3, fun j u hu => by simp at hu⟩⟩

/-- The reader's memory. -/
structure RSt (w : World) (rb base : Nat) (l : List Int) (v : Value) (a : Nat) (bad : Bool) : Prop where
  at_ : w.heap[rb]? = some (.cells #[v, .bool bad] 82 (0, 0))
  rd : RdB w v (l.drop a)
  le : a ≤ l.length
  old : (l.drop a = [] ∨ ∀ k, v.ownBlock = some k → k < base)
  base : base ≤ rb
theorem RSt.kept {w w' : World} {rb base : Nat} {l : List Int} {v : Value} {a : Nat} {bad : Bool} (h : RSt w rb base l v a bad) (hr : w'.heap[rb]? = w.heap[rb]?) (ho : ∀ k, k < base → k < w.heap.size → w'.heap[k]? = w.heap[k]?) : RSt w' rb base l v a bad := by
  refine ⟨hr.trans h.at_, ?_, h.le, h.old, h.base⟩
  rcases h.old with h1 | h1
  · have := h.rd
    unfold RdB at *
    rw [h1] at *
    exact rd_empty this (by omega)
  · refine Rd.same h.rd fun k hk => ?_
    by_cases hlt : k < w.heap.size
    · exact ho k (h1 k hk) hlt
    · rcases h.rd.split with ⟨a1, c1, rfl, h2⟩ | ⟨b, off, c, rfl, _, _, _, hb, _⟩
      · exfalso
        have h3 := heap_lt h.at_
        have h4 := h1 k hk
        have h5 := h.base
        omega
      · simp [Value.ownBlock] at hk; omega
/-- How it stands: at a place, or failed. -/
def RS (w : World) (rb base : Nat) (l : List Int) (s : Option Nat) : Prop := ∃ v a bad, RSt w rb base l v a bad ∧ s = if bad then none else some a
theorem RS.kept {w w' : World} {rb base : Nat} {l : List Int} {s : Option Nat} (h : RS w rb base l s) (hr : w'.heap[rb]? = w.heap[rb]?) (ho : ∀ k, k < base → k < w.heap.size → w'.heap[k]? = w.heap[k]?) : RS w' rb base l s := by
  obtain ⟨v, a, bad, h1, h2⟩ := h; exact ⟨v, a, bad, h1.kept hr ho, h2⟩
theorem RS.later {w w' : World} {rb base : Nat} {l : List Int} {s : Option Nat} (h : RS w rb base l s) (hb : Below w.heap.size w w') : RS w' rb base l s :=
  h.kept (by obtain ⟨v, a, bad, h1, _⟩ := h; exact hb.block _ (heap_lt h1.at_)) fun k _ hk => hb.block k hk
theorem RS.bad {w : World} {rb base : Nat} {l : List Int} {s : Option Nat} (h : RS w rb base l s) : w.cell? ⟨rb, 1, none⟩ = some (.bool s.isNone) := by
  obtain ⟨v, a, bad, h1, rfl⟩ := h
  have := cell_of h1.at_ (show (#[v, .bool bad] : Array Value)[1]? = some (.bool bad) from rfl)
  rw [this]; cases bad <;> rfl
theorem RS.fail {w : World} {rb base : Nat} {l : List Int} {s : Option Nat} (h : RS w rb base l s) : RS (w.setCell ⟨rb, 1, none⟩ (.bool true)) rb base l none := by
  obtain ⟨v, a, bad, h1, _⟩ := h
  have hb := h1.base
  have h2 : RSt (w.setCell ⟨rb, 1, none⟩ (.bool true)) rb base l v a true := by
    have h3 : (w.setCell ⟨rb, 1, none⟩ (.bool true)).heap[rb]? = some (.cells #[v, .bool true] 82 (0, 0)) := heap_set h1.at_
    refine ⟨h3, ?_, h1.le, h1.old, hb⟩
    rcases h1.old with h4 | h4
    · have := h1.rd
      unfold RdB at *
      rw [h4] at *
      exact rd_empty this (by omega)
    · exact Rd.same h1.rd fun k hk => Below.heap_setCell _ _ _ _ (show k ≠ rb by have := h4 k hk; omega)
  exact ⟨v, a, true, h2, rfl⟩
/-- Nothing but the reader's own block turns. -/
abbrev OthR (w w' : World) (rb : Nat) : Prop := Oth w w' rb rb
theorem othR_set (w : World) (rb i : Nat) (v : Value) : OthR w (w.setCell ⟨rb, i, none⟩ v) rb := (Oth.refl w rb rb).set i v
end Go.Proofs.YtnanlkoldloolaaDoor

/- The document's reader: a number read. -/
namespace Go.Proofs.YtnanlkoldloolaaDoor
open Go.RowKit

theorem infoB8 : (Tryd.prog.info? 5).map (fun i => (i.zero, i.size, i.bytes)) = some (some (.int .u8 0), 1, 1) := by kernel_rfl
theorem slicesR {w : World} {b off c : Nat} {op : Int} {t : List Int} {q : Nat} (hv : RdB w (.slice (some ⟨b, off, none⟩) (t.length + 1) c) (op :: t)) (hlt : t.length + 1 ≤ c) (hql : q ≤ t.length) :
    (∃ va, (∀ W : World, (Instr.slice 24 (.slice (some ⟨b, off, none⟩) (t.length + 1) c) (some (.int .i64 1)) (some (.int .i64 (1 + (q : Int)))) none).run Tryd.prog W = .ok va W) ∧ RdB w va (t.take q)) ∧
    (∃ va, (∀ W : World, (Instr.slice 24 (.slice (some ⟨b, off, none⟩) (t.length + 1) c) (some (.int .i64 (1 + (q : Int)))) none none).run Tryd.prog W = .ok va W) ∧ RdB w va (t.drop q) ∧ ∀ k, va.ownBlock = some k → k = b) := by
  obtain ⟨i0, hi0, hz0, hz1', hz2⟩ := info_parts infoB8
  constructor
  · refine ⟨_, fun W => run_slice_mid 24 5 Tryd.underlying24 hi0 hz1' _ _ _ 1 (1 + q) _ _ (by omega) (by omega) (by omega) (by omega) W, ?_⟩
    have := rdB_mid (l := 1) (h := 1 + q) hv (by simp) (by omega) (by omega)
    rw [show ((op :: t).take (1 + q)).drop 1 = t.take q by rw [Nat.add_comm]; rfl] at this
    exact this
  · refine ⟨_, fun W => run_slice_from 24 5 Tryd.underlying24 hi0 hz1' _ _ _ (1 + q) _ (by omega) (by omega) W, ?_, fun k hk => ?_⟩
    · have := rdB_mid (l := 1 + q) (h := t.length + 1) hv (by simp) (by omega) (by omega)
      rw [show ((op :: t).take (t.length + 1)).drop (1 + q) = t.drop q by rw [List.take_of_length_le (by simp), Nat.add_comm]; rfl] at this
      exact this
    · split at hk
      · simp [Value.ownBlock] at hk; exact hk.symm
      · simp [Value.ownBlock, add_plain] at hk; exact hk.symm

theorem RSt.step {w : World} {rb base : Nat} {l : List Int} {v va : Value} {a a' : Nat} (h : RSt w rb base l v a false) (hrd : RdB w va (l.drop a')) (hle : a' ≤ l.length) (hk : ∀ k, va.ownBlock = some k → k < base) : RS (w.setCell ⟨rb, 0, none⟩ va) rb base l (some a') := by
  refine ⟨va, a', false, ⟨?_, Rd.same hrd fun k hk' => Below.heap_setCell _ _ _ _ (show k ≠ rb by have := hk k hk'; have := h.base; omega), hle, .inr hk, h.base⟩, rfl⟩
  exact heap_set h.at_

set_option maxRecDepth 100000 in
set_option maxHeartbeats 8000000 in
theorem n_any (rb base : Nat) (l : List Int) (s : Option Nat) (w : World) (hB : isB l) (h : RS w rb base l s) :
   Calls Tryd.prog 44 #[.pointer (some ⟨rb, 0, none⟩)] w fun e w' => e = .returned (.int .u64 (rdN (numP l) s).1) ∧ RS w' rb base l (rdN (numP l) s).2 ∧ OthR w w' rb := by
  have kbad := h.bad
  have HR := Lib.hid h
  obtain ⟨v, a, bad, h1, rfl⟩ := h
  have kp := cell_of h1.at_ (show (#[v, .bool bad] : Array Value)[0]? = some v from rfl)
  have zf : ∀ i, w.frozen? ⟨rb, i, none⟩ = false := fun i => unfrozen_of h1.at_
  obtain ⟨va, vc, rfl⟩ := h1.rd.shape
  cases bad with
  | true =>
    have hf := HR.out.fail
    have HF := Lib.hid hf
    clear h1 hf
    simp only [if_true, Option.isNone_none] at kbad
    go_enter Tryd.func44, Tryd.ntmps44
    go_wp2_with fail
    go_ret
    exact ⟨rfl, HF.out, othR_set _ _ _ _⟩
  | false =>
    simp only [Bool.false_eq_true, if_false, Option.isNone_some] at kbad HR
    have H1 := Lib.hid h1
    by_cases hlt : a < l.length
    · obtain ⟨b, t, hbt⟩ : ∃ b t, l.drop a = b :: t := ⟨l[a], l.drop (a + 1), List.drop_eq_getElem_cons hlt⟩
      have hb : l.getD a 0 = b := by
        have := congrArg List.head? hbt
        simp [List.head?_drop, hlt] at this
        simp [hlt, this]
      have ht : t.length + 1 = l.length - a := by have := congrArg List.length hbt; simp at this; omega
      have htd : t = l.drop (a + 1) := by have := congrArg List.tail hbt; simpa using this.symm
      have hrd := h1.rd
      rw [hbt] at hrd
      rcases hrd.split with ⟨a1, c1, h2, h3⟩ | ⟨vb, off, c, h2, _, hlc, hc9, hvb, hcell⟩
      · cases h3
      simp only [Value.slice.injEq] at h2
      obtain ⟨rfl, hlen, rfl⟩ := h2
      have d0 := hcell 0 (by simp)
      simp only [Nat.add_zero] at d0
      have hvbase : vb < base := by
        rcases h1.old with h3 | h3
        · rw [h3] at hbt; cases hbt
        · exact h3 vb rfl
      rw [hbt] at kp
      simp only [List.length_cons] at kp hlen hlc hrd
      have hbB : 0 ≤ b ∧ b ≤ 255 := hB b (by rw [← hb]; simp [hlt])
      have HT := Lib.hid htd
      have HBT := Lib.hid hb
      have hlt1 : t.length + 1 ≤ 9223372036854775807 := by omega
      by_cases hs : b ≤ 247
      · have hnum : numP l a = some (b, a + 1) := by unfold numP; rw [if_pos hlt, hb, if_pos hs]
        have HNUM : Hid (rdN (numP l) (some a) = (b, some (a + 1))) := by show _ = _; simp [rdN, hnum]
        obtain ⟨-, va', hva, hrd', hbk⟩ := slicesR (q := 0) hrd (by simpa using hlc) (by omega)
        have hva1 : ∀ W : World, (Instr.slice 24 (.slice (some ⟨vb, off, none⟩) (t.length + 1) vc) (some (.int .i64 1)) none none).run Tryd.prog W = .ok va' W := by simpa using hva
        have HF : Hid (RS (w.setCell ⟨rb, 0, none⟩ va') rb base l (some (a + 1))) := H1.out.step (by rw [← htd]; simpa using hrd') (by omega) (fun k hk => by rw [hbk k hk]; exact hvbase)
        simp only [Bool.false_eq_true, if_false]
        rw [HNUM.out]
        obtain ⟨sa, sc, rfl⟩ := hrd'.shape
        clear h1 hbt hb ht htd hrd hcell hnum hva hrd' hbk hB
        go_enter Tryd.func44, Tryd.ntmps44
        go_wp2_with fail
        go_ret
        exact ⟨rfl, HF.out, othR_set _ _ _ _⟩
      · obtain ⟨k, hk⟩ : ∃ k : Nat, b - 247 = k := ⟨(b - 247).toNat, by omega⟩
        have hk8 : 1 ≤ k ∧ k ≤ 8 := by omega
        have hkn : (b - 247).toNat = k := by omega
        have HKN := Lib.hid hkn
        by_cases hfit : a + 1 + k ≤ l.length
        · obtain ⟨⟨vm, hvm, hrm⟩, va', hva, hrd', hbk⟩ := slicesR (q := k) hrd (by simpa using hlc) (by omega)
          have HNUM : Hid (rdN (numP l) (some a) = (beL (bytesAt l (a + 1) k), some (a + 1 + k))) := by
            show _ = _
            have hnum : numP l a = some (beL (bytesAt l (a + 1) k), a + 1 + k) := by unfold numP; rw [if_pos hlt, hb, if_neg hs, hkn, if_pos hfit]
            simp [rdN, hnum]
          have HF : Hid (RS (w.setCell ⟨rb, 0, none⟩ va') rb base l (some (a + 1 + k))) := H1.out.step (by rw [← List.drop_drop, ← htd]; exact hrd') hfit (fun j hj => by rw [hbk j hj]; exact hvbase)
          have htk : (t.take k).length = k := by simp; omega
          have hBy : Hid (∀ j, j < k → (t.take k).getD j 0 = l.getD (a + 1 + j) 0) := fun j hj => by
            subst htd
            simp only [List.getD, List.getElem?_take, if_pos hj, List.getElem?_drop]
          rcases hrm.split with ⟨a1, c1, h2, h3⟩ | ⟨mb, moff, mc, h2, _, hmlc, hmc9, hmvb, hmcell⟩
          · rw [h3] at htk; simp at htk; omega
          subst h2
          rw [htk] at hvm hmlc
          simp only [Bool.false_eq_true, if_false]
          rw [HNUM.out]
          obtain ⟨sa, sc, rfl⟩ := hrd'.shape
          have HMC : Hid (∀ j, j < k → w.cell? ⟨mb, moff + j, none⟩ = some (.int .u8 (l.getD (a + 1 + j) 0))) := fun j hj => by rw [hmcell j (by omega), hBy.out j hj]
          have HBB := Lib.hid hB
          have hfit2 : decide ((t.length : Int) + 1 < 1 + k) = false := decide_eq_false (by omega)
          have HFIT := Lib.hid hfit
          clear h1 hbt hb ht htd hrd hcell hrd' hbk hB hrm hmcell htk hkn hfit
          go_enter Tryd.func44, Tryd.ntmps44
          go_wp2_with fail
          go_loopw [65, 4] (fun i n wr => ∃ j : Nat, j ≤ k ∧ i = .int .i64 j ∧ n = .int .u64 (beL (bytesAt l (a + 1) j)) ∧ wr = w) (fun i _ _ => k - (intOf i).toNat)
          case atStart => exact ⟨0, by omega, rfl, rfl, rfl⟩
          case round =>
            obtain ⟨j, hj, rfl, rfl, rfl⟩ := hrel
            have hbd := beL_bd j (bytesAt l (a + 1) j) (bytesAt_len (by have := HFIT.out; omega)) (bytesAt_B HBB.out _ _)
            obtain ⟨n, hn⟩ : ∃ n, beL (bytesAt l (a + 1) j) = n := ⟨_, rfl⟩
            have HNN := Lib.hid hn
            rw [hn] at hbd ⊢
            clear hn
            by_cases hjk : j < k
            · have d1 := HMC.out j hjk
              have c0 := HBB.out (l.getD (a + 1 + j) 0) (by have := HFIT.out; simp [show a + 1 + j < l.length by omega])
              obtain ⟨c, hc⟩ : ∃ c, l.getD (a + 1 + j) 0 = c := ⟨_, rfl⟩
              have HCC := Lib.hid hc
              rw [hc] at d1 c0
              clear hc
              have h256 : n < 256 ^ 7 := Int.lt_of_lt_of_le hbd.2 (pow256 j (by omega))
              have h7 : n < 72057594037927936 := h256
              have hn0 := hbd.1
              clear hbd h256
              have hw1 : IntKind.u64.wrap (256 * n) = 256 * n := by rw [IntKind.wrap_u64]; omega
              have hw2 : IntKind.u64.wrap (256 * n + c) = 256 * n + c := by rw [IntKind.wrap_u64]; omega
              have hw3 : IntKind.u64.wrap c = c := by rw [IntKind.wrap_u64]; omega
              have HNX : Hid (beL (bytesAt l (a + 1) (j + 1)) = 256 * n + c) := by
                show _ = _
                rw [bytesAt_succ (by have := HFIT.out; omega), beL_snoc, HNN.out, HCC.out]; omega
              go_wp2_with fail
              exact ⟨⟨j + 1, by omega, by go_num, congrArg (Value.int .u64) HNX.out.symm, by first | rfl | trivial⟩, by simp [intOf]; omega⟩
            · obtain rfl : j = k := by omega
              clear hbd
              go_wp2_with fail
              go_ret
              exact ⟨by rw [HNN.out]; rfl, by have := HF.out; rwa [List.length_drop] at this, othR_set _ _ _ _⟩
        · have HNUM : Hid (rdN (numP l) (some a) = (0, none)) := by
            show _ = _
            have hnum : numP l a = none := by unfold numP; rw [if_pos hlt, hb, if_neg hs, hkn, if_neg hfit]
            simp [rdN, hnum]
          have hf := HR.out.fail
          have HF := Lib.hid hf
          have hfit2 : decide ((t.length : Int) + 1 < 1 + k) = true := decide_eq_true (by omega)
          simp only [Bool.false_eq_true, if_false]
          rw [HNUM.out]
          clear h1 hbt hb ht htd hrd hcell hB hf hkn
          go_enter Tryd.func44, Tryd.ntmps44
          go_wp2_with fail
          go_ret
          exact ⟨rfl, HF.out, othR_set _ _ _ _⟩
    · have he : l.drop a = [] := List.drop_of_length_le (by omega)
      have hle := H1.out.le
      have hf := HR.out.fail
      have HF := Lib.hid hf
      have hlen : (l.drop a).length = 0 := by rw [he]; rfl
      rw [hlen] at kp
      have hp : numP l a = none := by unfold numP; rw [if_neg hlt]
      have hnone : rdN (numP l) (some a) = (0, none) := by simp [rdN, hp]
      simp only [Bool.false_eq_true, if_false]
      rw [hnone]
      clear h1 hf he hlen hp hnone
      go_enter Tryd.func44, Tryd.ntmps44
      go_wp2_with fail
      go_ret
      exact ⟨rfl, HF.out, othR_set _ _ _ _⟩
end Go.Proofs.YtnanlkoldloolaaDoor

/- The document's reader: a plain number, one with a sign. -/
namespace Go.Proofs.YtnanlkoldloolaaDoor
open Go.RowKit

theorem numP_bd {l : List Int} {a a' : Nat} {n : Int} (hB : isB l) (h : numP l a = some (n, a')) : 0 ≤ n ∧ a < a' ∧ a' ≤ l.length ∧ n < 18446744073709551616 := by
  unfold numP at h
  split at h
  · rename_i hlt
    have hb := hB (l.getD a 0) (by simp [hlt])
    split at h
    · simp at h
      obtain ⟨rfl, rfl⟩ := h
      simp [hlt] at hb ⊢
      omega
    · split at h
      · rename_i h1 h2
        simp only [Option.some.injEq, Prod.mk.injEq] at h
        obtain ⟨rfl, rfl⟩ := h
        have hk : (l.getD a 0 - 247).toNat ≤ 8 := by omega
        have h3 := beL_bd _ _ (bytesAt_len h2) (bytesAt_B hB (a + 1) _)
        refine ⟨h3.1, by omega, h2, Int.lt_of_lt_of_le h3.2 ?_⟩
        rcases (by omega : (l.getD a 0 - 247).toNat = 0 ∨ (l.getD a 0 - 247).toNat = 1 ∨ (l.getD a 0 - 247).toNat = 2 ∨ (l.getD a 0 - 247).toNat = 3 ∨ (l.getD a 0 - 247).toNat = 4 ∨ (l.getD a 0 - 247).toNat = 5 ∨ (l.getD a 0 - 247).toNat = 6 ∨ (l.getD a 0 - 247).toNat = 7 ∨ (l.getD a 0 - 247).toNat = 8) with e | e | e | e | e | e | e | e | e <;> rw [e] <;> decide
      · cases h
  · cases h
/-- What a strict reader takes, the lenient one takes, too. -/
theorem numP_of {l : List Int} {a a' : Nat} {n : Int} (h : numR l a = some (n, a')) : numP l a = some (n, a') := by
  unfold numR at h
  unfold numP
  split at h
  · rename_i h1
    rw [if_pos h1]
    split at h
    · rename_i h2; rw [if_pos h2]; exact h
    · rename_i h2
      rw [if_neg h2]
      split at h
      · rename_i h3; rw [if_pos h3.1]; exact h
      · cases h
  · cases h
def plainP (l : List Int) : PR Int := fun a => match numP l a with | some (n, b) => if n ≤ 2147483647 then some (n, b) else none | none => none
theorem plainP_of {l : List Int} {a a' : Nat} {n : Int} (h : plainR l a = some (n, a')) : plainP l a = some (n, a') := by
  unfold plainR at h
  cases e : numR l a with
  | none => rw [e] at h; cases h
  | some x => obtain ⟨n1, a1⟩ := x; rw [e] at h; unfold plainP; rw [numP_of e]; exact h
theorem plainP_bd {l : List Int} {a a' : Nat} {n : Int} (hB : isB l) (h : plainP l a = some (n, a')) : 0 ≤ n ∧ n ≤ 2147483647 ∧ a < a' ∧ a' ≤ l.length := by
  unfold plainP at h
  split at h
  · rename_i n1 a1 h1
    split at h
    · simp only [Option.some.injEq, Prod.mk.injEq] at h
      obtain ⟨rfl, rfl⟩ := h
      have := numP_bd hB h1
      omega
    · cases h
  · cases h
theorem rdN_bd {l : List Int} {s : Option Nat} (hB : isB l) : 0 ≤ (rdN (numP l) s).1 ∧ (rdN (numP l) s).1 < 18446744073709551616 := by
  cases s with
  | none => simp [rdN]
  | some a =>
    cases e : numP l a with
    | none => simp [rdN, e]
    | some x => obtain ⟨n, b⟩ := x; have := numP_bd hB e; simp [rdN, e]; omega
theorem rdN_plain_bd {l : List Int} {s : Option Nat} (hB : isB l) : 0 ≤ (rdN (plainP l) s).1 ∧ (rdN (plainP l) s).1 ≤ 2147483647 := by
  cases s with
  | none => simp [rdN]
  | some a =>
    cases e : plainP l a with
    | none => simp [rdN, e]
    | some x => obtain ⟨n, b⟩ := x; have := plainP_bd hB e; simp [rdN, e]; omega
theorem rdN_plain (l : List Int) (s : Option Nat) : rdN (plainP l) s = if (rdN (numP l) s).1 ≤ 2147483647 then rdN (numP l) s else (0, none) := by
  cases s with
  | none => simp [rdN]
  | some a =>
    cases e : numP l a with
    | none => simp [rdN, plainP, e]
    | some x =>
      obtain ⟨n, b⟩ := x
      by_cases h : n ≤ 2147483647
      · simp [rdN, plainP, e, h]
      · simp [rdN, plainP, e, h]
theorem rdN_sign (l : List Int) (s : Option Nat) : rdN (signR (numP l)) s = (unzig (rdN (numP l) s).1, (rdN (numP l) s).2) := by
  cases s with
  | none => simp [rdN, unzig]
  | some a =>
    cases e : numP l a with
    | none => simp [rdN, signR, e, unzig]
    | some x => obtain ⟨n, b⟩ := x; simp [rdN, signR, e]

set_option maxRecDepth 100000 in
set_option maxHeartbeats 4000000 in
theorem rplain_any (rb base : Nat) (l : List Int) (s : Option Nat) (w : World) (hB : isB l) (h : RS w rb base l s) :
   Calls Tryd.prog 30 #[.pointer (some ⟨rb, 0, none⟩)] w fun e w' => e = .returned (.int .i64 (rdN (plainP l) s).1) ∧ RS w' rb base l (rdN (plainP l) s).2 ∧ OthR w w' rb := by
  have HN := Lib.hid (n_any rb base l s w hB h)
  have hbd := rdN_bd (s := s) hB
  have HP := Lib.hid (rdN_plain l s)
  obtain ⟨x, hx⟩ : ∃ x, rdN (numP l) s = x := ⟨_, rfl⟩
  rw [hx] at HN HP hbd
  obtain ⟨n, s1⟩ := x
  simp only at hbd
  clear h hx
  go_enter Tryd.func30, Tryd.ntmps30
  go_wp2_with fail
  refine HN.out.mono ?_
  rintro e w1 ⟨rfl, hs1, ho1⟩
  have kb := hs1.bad
  have zf : w1.frozen? ⟨rb, 1, none⟩ = false := by obtain ⟨v, a, bad, h1, _⟩ := hs1; exact unfrozen_of h1.at_
  have HS1 := Lib.hid hs1
  have HO1 := Lib.hid ho1
  simp only
  clear hs1 ho1 HN
  by_cases hm : n ≤ 2147483647
  · have HQ : Hid (rdN (plainP l) s = (n, s1)) := by show _ = _; rw [HP.out]; simp [hm]
    go_wp2_with fail
    go_ret
    exact ⟨by rw [HQ.out]; rfl, by rw [HQ.out]; exact HS1.out, HO1.out⟩
  · have HQ : Hid (rdN (plainP l) s = (0, none)) := by show _ = _; rw [HP.out]; simp [hm]
    have HF := Lib.hid HS1.out.fail
    go_wp2_with fail
    go_ret
    exact ⟨by rw [HQ.out]; rfl, by rw [HQ.out]; exact HF.out, HO1.out.set _ _⟩

set_option maxRecDepth 100000 in
set_option maxHeartbeats 4000000 in
theorem rsigned_any (rb base : Nat) (l : List Int) (s : Option Nat) (w : World) (hB : isB l) (h : RS w rb base l s) :
   Calls Tryd.prog 31 #[.pointer (some ⟨rb, 0, none⟩)] w fun e w' => e = .returned (.int .i64 (rdN (signR (numP l)) s).1) ∧ RS w' rb base l (rdN (signR (numP l)) s).2 ∧ OthR w w' rb := by
  have HN := Lib.hid (n_any rb base l s w hB h)
  have hbd := rdN_bd (s := s) hB
  have HP := Lib.hid (rdN_sign l s)
  obtain ⟨x, hx⟩ : ∃ x, rdN (numP l) s = x := ⟨_, rfl⟩
  rw [hx] at HN HP hbd
  obtain ⟨n, s1⟩ := x
  simp only at hbd
  clear h hx
  go_enter Tryd.func31, Tryd.ntmps31
  go_wp2_with fail
  refine HN.out.mono ?_
  rintro e w1 ⟨rfl, hs1, ho1⟩
  have HF := Lib.hid (And.intro hs1 ho1)
  simp only
  clear hs1 ho1 HN
  obtain ⟨m, rfl⟩ : ∃ m : Nat, n = m := ⟨n.toNat, by omega⟩
  by_cases hm : (m : Int) % 2 = 1
  · have hz : unzig m = -1 - (m : Int) / 2 := by unfold unzig; rw [if_neg (by omega)]
    have HZ := Lib.hid hz
    clear hz
    go_wp2_with fail
    go_ret
    exact ⟨by rw [HP.out]; show _ = Ending.returned (.int .i64 (unzig m)); rw [HZ.out]; rfl, by rw [HP.out]; exact HF.out.1, HF.out.2⟩
  · have hz : unzig m = (m : Int) / 2 := by unfold unzig; rw [if_pos (by omega)]
    have HZ := Lib.hid hz
    clear hz
    go_wp2_with fail
    go_ret
    exact ⟨by rw [HP.out]; show _ = Ending.returned (.int .i64 (unzig m)); rw [HZ.out]; rfl, by rw [HP.out]; exact HF.out.1, HF.out.2⟩
end Go.Proofs.YtnanlkoldloolaaDoor

/- The document's bytes of debug information, and what a reader reads of them: plain. -/
namespace Go.Proofs.YtnanlkoldloolaaDoor
open Go.RowKit

/-- These bytes stand at a place. -/
def At (l : List Int) (a : Nat) (q : List Int) : Prop := ∃ r, l.drop a = q ++ r
theorem At.app {l q1 q2 : List Int} {a : Nat} (h : At l a (q1 ++ q2)) : At l a q1 ∧ At l (a + q1.length) q2 := by
  obtain ⟨r, h⟩ := h
  refine ⟨⟨q2 ++ r, by rw [h, List.append_assoc]⟩, ⟨r, ?_⟩⟩
  rw [← List.drop_drop, h, List.append_assoc, List.drop_left]
theorem At.cat {l q1 q2 : List Int} {a : Nat} (h : At l a q1) (k : At l (a + q1.length) q2) : At l a (q1 ++ q2) := by
  obtain ⟨r, h⟩ := h
  obtain ⟨r2, k⟩ := k
  rw [← List.drop_drop, h, List.drop_left] at k
  exact ⟨r2, by rw [h, k, List.append_assoc]⟩
theorem At.nil (l : List Int) (a : Nat) : At l a [] := ⟨l.drop a, rfl⟩
theorem At.len {l q : List Int} {a : Nat} (h : At l a q) : q.length ≤ l.length - a := by
  obtain ⟨r, h⟩ := h
  have := congrArg List.length h
  simp at this
  omega
theorem At.get {l q : List Int} {a i : Nat} (h : At l a q) (hi : i < q.length) : l.getD (a + i) 0 = q[i] := by
  obtain ⟨r, h⟩ := h
  have h1 : (l.drop a)[i]? = (q ++ r)[i]? := by rw [h]
  rw [List.getElem?_drop, List.getElem?_append_left hi, List.getElem?_eq_getElem hi] at h1
  simp [List.getD, h1]
theorem At.bytes {l q : List Int} {a : Nat} (h : At l a q) : bytesAt l a q.length = q := by
  obtain ⟨r, h⟩ := h
  unfold bytesAt
  rw [h, List.take_left]
theorem at_bytes (l : List Int) (a k : Nat) : At l a (bytesAt l a k) := ⟨(l.drop a).drop k, by unfold bytesAt; rw [List.take_append_drop]⟩
theorem at_cons {l : List Int} {a : Nat} (h : a < l.length) : At l a [l.getD a 0] := ⟨l.drop (a + 1), by rw [List.drop_eq_getElem_cons h]; simp [List.getD, h]⟩
theorem At.eq {l q : List Int} {a : Nat} (h : At l a q) (he : a + q.length = l.length) : l = l.take a ++ q := by
  obtain ⟨r, h⟩ := h
  have h2 := congrArg List.length h
  simp at h2
  obtain rfl : r = [] := List.eq_nil_of_length_eq_zero (by omega)
  rw [List.append_nil] at h
  rw [← h, List.take_append_drop]

/-! ### A number's bytes -/
theorem beB_head : ∀ (n : Nat) (x : Int) (r : List Int), beB n = x :: r → x ≠ 0 := by
  intro n
  induction n using Nat.strongRecOn with
  | _ n ih =>
    intro x r h
    by_cases h0 : n = 0
    · subst h0; rw [beB_zero] at h; cases h
    · rw [beB_pos (by omega)] at h
      cases e : beB (n / 256) with
      | nil =>
        rw [e] at h
        simp only [List.nil_append, List.cons.injEq] at h
        have : n / 256 = 0 := by
          by_cases h1 : n / 256 = 0
          · exact h1
          · rw [beB_pos (by omega)] at e; simp at e
        omega
      | cons y q =>
        rw [e] at h
        simp only [List.cons_append, List.cons.injEq] at h
        obtain ⟨rfl, _⟩ := h
        exact ih _ (by omega) _ _ e
theorem beB_ne {n : Nat} (h : 0 < n) : beB n ≠ [] := by rw [beB_pos h]; simp
theorem beB_of : ∀ (k : Nat) (q : List Int), q.length = k → isB q → (∀ x r, q = x :: r → x ≠ 0) → beB (beL q).toNat = q
  | 0, q, h, _, _ => by obtain rfl := List.eq_nil_of_length_eq_zero h; exact beB_zero
  | k + 1, q, h, hB, hh => by
    obtain ⟨r, x, rfl⟩ : ∃ r x, q = r ++ [x] := by
      have hne : q ≠ [] := by rintro rfl; simp at h
      exact ⟨q.dropLast, q.getLast hne, (List.dropLast_concat_getLast hne).symm⟩
    have hx := hB x (by simp)
    rw [beL_snoc]
    cases e : r with
    | nil =>
      subst e
      have h1 := hh x [] rfl
      have h2 : (beL [] * 256 + x).toNat = x.toNat := by simp [beL]
      rw [h2, beB_pos (by omega), show x.toNat / 256 = 0 by omega, beB_zero]
      simp only [List.nil_append, List.cons.injEq, and_true]
      omega
    | cons y t =>
      have ih := beB_of k r (by simpa using h) (fun z hz => hB z (by simp [hz])) (fun z s hz => hh z (s ++ [x]) (by rw [hz]; rfl))
      have hb := beL_bd k r (by simpa using h) (fun z hz => hB z (by simp [hz]))
      have hpos : 0 < beL r := by
        rcases Int.lt_or_eq_of_le hb.1 with h1 | h1
        · exact h1
        · rw [← h1] at ih
          rw [e] at ih
          have : (0 : Int).toNat = 0 := rfl
          rw [this, beB_zero] at ih
          cases ih
      rw [← e]
      have h2 : (beL r * 256 + x).toNat / 256 = (beL r).toNat := by omega
      have h3 : ((beL r * 256 + x).toNat % 256 : Nat) = x.toNat := by omega
      rw [beB_pos (by omega), h2, ih, h3]
      simp only [List.append_cancel_left_eq, List.cons.injEq, and_true]
      omega
theorem numW_pos (n : Nat) : 0 < (numW n).length := by unfold numW; split <;> simp

theorem numR_numW {l : List Int} {a n : Nat} (hn : n < 18446744073709551616) (h : At l a (numW n)) : numR l a = some ((n : Int), a + (numW n).length) := by
  have hl := h.len
  have hp := numW_pos n
  unfold numR
  rw [if_pos (by omega)]
  by_cases hs : n ≤ 247
  · have e : numW n = [(n : Int)] := by unfold numW; rw [if_pos hs]
    rw [e] at h ⊢
    have h0 := h.get (i := 0) (by simp)
    simp only [Nat.add_zero, List.getElem_cons_zero] at h0
    rw [h0, if_pos (by omega)]
    rfl
  · have e : numW n = (247 + (beB n).length : Int) :: beB n := by unfold numW; rw [if_neg hs]
    have h8 : (beB n).length ≤ 8 := beB_len 8 n (by omega)
    have h1 : 1 ≤ (beB n).length := by
      have := beB_ne (n := n) (by omega)
      cases e : beB n with
      | nil => exact absurd e this
      | cons => simp
    rw [e] at h hl ⊢
    have h0 := h.get (i := 0) (by simp)
    simp only [Nat.add_zero, List.getElem_cons_zero] at h0
    have h2 : At l (a + 1) (beB n) := (At.app (q1 := [(247 + (beB n).length : Int)]) h).2
    have hk : ((247 + (beB n).length : Int) - 247).toNat = (beB n).length := by omega
    rw [h0, if_neg (by omega), hk, h2.bytes, beB_val]
    have h3 : l.getD (a + 1) 0 ≠ 0 := by
      have := h2.get (i := 0) (by omega)
      rw [Nat.add_zero] at this
      rw [this]
      obtain ⟨y, t, e⟩ : ∃ y t, beB n = y :: t := by
        cases e : beB n with
        | nil => rw [e] at h1; simp at h1
        | cons y t => exact ⟨y, t, rfl⟩
      simp only [e, List.getElem_cons_zero]
      exact beB_head n y t e
    simp only [List.length_cons] at hl
    rw [if_pos ⟨by omega, h3, by omega⟩]
    simp only [List.length_cons, Option.some.injEq, Prod.mk.injEq, true_and]
    omega
theorem numP_numW {l : List Int} {a n : Nat} (hn : n < 18446744073709551616) (h : At l a (numW n)) : numP l a = some ((n : Int), a + (numW n).length) := numP_of (numR_numW hn h)
/-- What was read strictly is what would be written. -/
theorem numR_wrote {l : List Int} {a b : Nat} {n : Int} (hB : isB l) (h : numR l a = some (n, b)) : At l a (numW n.toNat) ∧ b = a + (numW n.toNat).length := by
  unfold numR at h
  split at h
  · rename_i hlt
    have hb := hB (l.getD a 0) (by simp [hlt])
    obtain ⟨c, hc⟩ : ∃ c, l.getD a 0 = c := ⟨_, rfl⟩
    have h0 := at_cons hlt
    rw [hc] at h hb h0
    split at h
    · rename_i h1
      simp only [Option.some.injEq, Prod.mk.injEq] at h
      obtain ⟨rfl, rfl⟩ := h
      have e : numW c.toNat = [c] := by unfold numW; rw [if_pos (by omega)]; simp only [List.cons.injEq, and_true]; omega
      rw [e]
      exact ⟨h0, rfl⟩
    · split at h
      · rename_i h1 h2
        simp only [Option.some.injEq, Prod.mk.injEq] at h
        obtain ⟨rfl, rfl⟩ := h
        obtain ⟨k, hk⟩ : ∃ k, (c - 247).toNat = k := ⟨_, rfl⟩
        rw [hk] at h2 ⊢
        have hq := bytesAt_len h2.1
        have hqB := bytesAt_B hB (a + 1) k
        have hbeB := beB_of k (bytesAt l (a + 1) k) hq hqB (fun x r e => by
          have h3 := at_bytes l (a + 1) k
          rw [e] at h3
          have h4 := h3.get (i := 0) (by simp)
          simp only [Nat.add_zero, List.getElem_cons_zero] at h4
          rw [← h4]; exact h2.2.1)
        have e : numW (beL (bytesAt l (a + 1) k)).toNat = c :: bytesAt l (a + 1) k := by
          unfold numW
          rw [if_neg (by omega), hbeB, hq]
          simp only [List.cons.injEq, and_true]
          omega
        rw [e]
        refine ⟨At.cat (q1 := [c]) h0 (at_bytes l (a + 1) k), by simp only [List.length_cons, hq]; omega⟩
      · cases h
  · cases h
theorem numP_cheap {l : List Int} {a b : Nat} {n : Int} (hB : isB l) (h : numP l a = some (n, b)) : a < b ∧ b ≤ l.length ∧ 0 ≤ n ∧ (numW n.toNat).length ≤ 9 := by
  have := numP_bd hB h
  exact ⟨by omega, by omega, by omega, numW_len _ (by omega)⟩

/-! ### With a sign -/
def zig (n : Int) : Nat := if n < 0 then (2 * (-1 - n) + 1).toNat else (2 * n).toNat
def isI64 (n : Int) : Prop := -9223372036854775808 ≤ n ∧ n ≤ 9223372036854775807
def signW (n : Int) : List Int := numW (zig n)
theorem zig_lt {n : Int} (h : isI64 n) : zig n < 18446744073709551616 := by unfold isI64 at h; unfold zig; split <;> omega
theorem unzig_zig (n : Int) : unzig (zig n : Nat) = n := by
  unfold unzig zig
  split <;> split <;> omega
theorem zig_unzig {n : Int} (h : 0 ≤ n) : zig (unzig n) = n.toNat := by
  unfold unzig zig
  split <;> split <;> omega
theorem unzig_bd {n : Int} (h : 0 ≤ n) (h2 : n < 18446744073709551616) : isI64 (unzig n) := by
  unfold unzig isI64
  split <;> omega
theorem signR_signW {num : PR Int} {l : List Int} (hnum : ∀ (a n : Nat), n < 18446744073709551616 → At l a (numW n) → num a = some ((n : Int), a + (numW n).length)) {a : Nat} {n : Int} (hn : isI64 n) (h : At l a (signW n)) : signR num a = some (n, a + (signW n).length) := by
  unfold signR
  rw [hnum a (zig n) (zig_lt hn) h]
  simp only [unzig_zig]
  rfl

/-! ### What is written -/
def spotW (x : Int × Int) : List Int := numsW [x.1, x.2]
def stopW (s : List (Int × Int)) : List Int := numsW [(s.length : Int)] ++ s.flatMap spotW
def locW (x : LocD) : List Int := numsW [x.depth, x.var, x.kind] ++ (if x.kind = 1 then [] else numsW [x.arg] ++ signW x.a) ++ signW x.b
def markW (m : MarkD) : List Int := numsW [m.stop, (m.locs.length : Int)] ++ m.locs.flatMap locW
def sitesW (last : Int) : List (Int × Int) → List Int
  | [] => []
  | s :: r => numsW [s.1 - last, s.2] ++ sitesW s.1 r
def bodyW (d : DebD) : List Int := numsW [(d.stops.length : Int)] ++ d.stops.flatMap stopW ++ (numsW [(d.marks.length : Int)] ++ d.marks.flatMap markW) ++ (numsW [(d.sites.length : Int)] ++ sitesW 0 d.sites)
def encD (d : DebD) : List Int := magicL ++ bodyW d
theorem numsW_1 (x : Int) : numsW [x] = numW x.toNat := by simp [numsW]
theorem numsW_2 (x y : Int) : numsW [x, y] = numW x.toNat ++ numW y.toNat := by simp [numsW]
theorem numsW_3 (x y z : Int) : numsW [x, y, z] = numW x.toNat ++ numW y.toNat ++ numW z.toNat := by simp [numsW]
theorem sitesW_snoc (s : Int × Int) : ∀ (l : List (Int × Int)) (last : Int), sitesW last (l ++ [s]) = sitesW last l ++ numsW [s.1 - lastOf last l, s.2]
  | [], last => by simp [sitesW, lastOf]
  | x :: r, last => by simp only [List.cons_append, sitesW, sitesW_snoc s r x.1, List.append_assoc]; rfl
theorem sitesW_of : ∀ (ds : List (Int × Int)) (last : Int), sitesW last (sitesOf last ds) = ds.flatMap spotW
  | [], last => rfl
  | (d, m) :: r, last => by
    simp only [sitesOf, sitesW, sitesW_of r (last + d), List.flatMap_cons]
    rw [show last + d - last = d by omega]; rfl

/-! ### Reading what is written -/
/-- A reader gives what was written. -/
def Reads {α : Type} (l : List Int) (one : PR α) (W : α → List Int) (ok : α → Prop) : Prop := ∀ x a, ok x → At l a (W x) → one a = some (x, a + (W x).length)
theorem listN_reads {α : Type} {l : List Int} {one : PR α} {W : α → List Int} {ok : α → Prop} (h : Reads l one W ok) : ∀ (k : Nat) (xs : List α) (a : Nat), xs.length = k → (∀ x ∈ xs, ok x) → At l a (xs.flatMap W) → listN one xs.length a = some (xs, a + (xs.flatMap W).length)
  | 0, xs, a, hk, _, _ => by obtain rfl := List.eq_nil_of_length_eq_zero hk; rfl
  | k + 1, xs, a, hk, hok, hat => by
    obtain ⟨r, x, rfl⟩ : ∃ r x, xs = r ++ [x] := by
      have hne : xs ≠ [] := by rintro rfl; simp at hk
      exact ⟨xs.dropLast, xs.getLast hne, (List.dropLast_concat_getLast hne).symm⟩
    rw [List.flatMap_append] at hat
    obtain ⟨h1, h2⟩ := hat.app
    rw [List.flatMap_cons, List.flatMap_nil, List.append_nil] at h2
    have ih := listN_reads h k r a (by simpa using hk) (fun y hy => hok y (by simp [hy])) h1
    rw [List.length_append]
    simp only [List.length_cons, List.length_nil, Nat.zero_add, listN, ih, h x _ (hok x (by simp)) h2]
    simp only [List.flatMap_append, List.flatMap_cons, List.flatMap_nil, List.append_nil, List.length_append, Option.some.injEq, Prod.mk.injEq, true_and]
    omega
def NumOK (l : List Int) (num : PR Int) : Prop := ∀ (n : Int) (a : Nat), 0 ≤ n → n ≤ 2147483647 → At l a (numW n.toNat) → num a = some (n, a + (numW n.toNat).length)
theorem listR_reads {α : Type} {l : List Int} {num : PR Int} {one : PR α} {W : α → List Int} {ok : α → Prop} (hn : NumOK l num) (h : Reads l one W ok) : Reads l (listR num one) (fun xs => numsW [(xs.length : Int)] ++ xs.flatMap W) (fun xs => xs.length ≤ 2147483647 ∧ ∀ x ∈ xs, ok x) := by
  intro xs a ⟨h1, h2⟩ hat
  simp only [numsW_1] at hat ⊢
  obtain ⟨h3, h4⟩ := hat.app
  unfold listR
  rw [hn _ a (by omega) (by omega) h3]
  simp only [Int.toNat_natCast] at h4 ⊢
  rw [listN_reads h _ xs _ rfl h2 h4, List.length_append]
  simp only [Option.some.injEq, Prod.mk.injEq, true_and]
  omega
def isN (n : Int) : Prop := 0 ≤ n ∧ n ≤ 2147483647
theorem spot_reads {l : List Int} {num : PR Int} (hn : NumOK l num) : Reads l (spotR num) spotW (fun x => isN x.1 ∧ isN x.2) := by
  rintro ⟨x, y⟩ a ⟨h1, h2⟩ hat
  simp only [spotW, numsW_2] at hat ⊢
  obtain ⟨h3, h4⟩ := hat.app
  unfold spotR
  rw [hn _ a h1.1 h1.2 h3]
  simp only
  rw [hn _ _ h2.1 h2.2 h4, List.length_append]
  simp only [Option.some.injEq, Prod.mk.injEq, true_and]
  omega
def SgOK (l : List Int) (sg : PR Int) : Prop := ∀ (n : Int) (a : Nat), isI64 n → At l a (signW n) → sg a = some (n, a + (signW n).length)
def locOK (kd : Int → Option Int) (x : LocD) : Prop := isN x.depth ∧ isN x.var ∧ isN x.kind ∧ kd x.kind = some x.kind ∧ isN x.arg ∧ isI64 x.a ∧ isI64 x.b ∧ (x.kind = 1 → x.arg = 0 ∧ x.a = 0)
theorem loc_reads {l : List Int} {num sg : PR Int} {kd : Int → Option Int} (hn : NumOK l num) (hs : SgOK l sg) : Reads l (locR num sg kd) locW (locOK kd) := by
  rintro ⟨dd, vv, kk, ar, xa, xb⟩ a ⟨h1, h2, h3, h4, h5, h6, h7, h8⟩ hat
  simp only at h1 h2 h3 h4 h5 h6 h7 h8
  simp only [locW, numsW_3] at hat ⊢
  obtain ⟨hat, e5⟩ := hat.app
  obtain ⟨hat, e4⟩ := hat.app
  obtain ⟨hat, e3⟩ := hat.app
  obtain ⟨e1, e2⟩ := hat.app
  unfold locR
  rw [hn _ _ h1.1 h1.2 e1]
  simp only
  rw [hn _ _ h2.1 h2.2 e2]
  simp only
  rw [List.length_append, ← Nat.add_assoc] at e3
  rw [hn _ _ h3.1 h3.2 e3]
  simp only [h4]
  unfold locTail
  by_cases k1 : kk = 1
  · subst k1
    obtain ⟨rfl, rfl⟩ := h8 rfl
    rw [if_pos rfl] at e5 ⊢
    simp only [if_true, List.append_nil, List.length_append, ← Nat.add_assoc] at e5 ⊢
    rw [hs _ _ h7 e5]
  · rw [if_neg k1] at e4 e5 ⊢
    rw [numsW_1] at e4
    obtain ⟨f1, f2⟩ := e4.app
    simp only [if_neg k1, numsW_1, List.length_append, ← Nat.add_assoc] at f1 f2 e5 ⊢
    rw [hn _ _ h5.1 h5.2 f1]
    simp only
    rw [hs _ _ h6 f2]
    simp only
    rw [hs _ _ h7 e5]
def markOK (kd : Int → Option Int) (m : MarkD) : Prop := isN m.stop ∧ m.locs.length ≤ 2147483647 ∧ ∀ x ∈ m.locs, locOK kd x
theorem mark_reads {l : List Int} {num sg : PR Int} {kd : Int → Option Int} (hn : NumOK l num) (hs : SgOK l sg) : Reads l (markR num sg kd) markW (markOK kd) := by
  rintro ⟨st, ls⟩ a ⟨h1, h2, h3⟩ hat
  simp only at h1 h2 h3
  simp only [markW] at hat ⊢
  rw [show numsW [st, (ls.length : Int)] = numW st.toNat ++ numsW [(ls.length : Int)] by rw [numsW_2, numsW_1], List.append_assoc] at hat ⊢
  obtain ⟨e1, e2⟩ := hat.app
  unfold markR
  rw [hn _ _ h1.1 h1.2 e1]
  simp only
  have h4 := listR_reads hn (loc_reads (kd := kd) hn hs) ls _ ⟨h2, h3⟩ e2
  rw [h4, show (numW st.toNat ++ (numsW [(ls.length : Int)] ++ List.flatMap locW ls)).length = (numW st.toNat).length + (numsW [(ls.length : Int)] ++ List.flatMap locW ls).length by simp, ← Nat.add_assoc]
def bodyOK (kd : Int → Option Int) (d : DebD) (ds : List (Int × Int)) : Prop :=
  (d.stops.length ≤ 2147483647 ∧ ∀ s ∈ d.stops, s.length ≤ 2147483647 ∧ ∀ x ∈ s, isN x.1 ∧ isN x.2) ∧ (d.marks.length ≤ 2147483647 ∧ ∀ m ∈ d.marks, markOK kd m) ∧ d.sites = sitesOf 0 ds ∧ ds.length ≤ 2147483647 ∧ ∀ x ∈ ds, isN x.1 ∧ isN x.2
theorem all_reads {l : List Int} {num sg : PR Int} {kd : Int → Option Int} (hn : NumOK l num) (hs : SgOK l sg) (d : DebD) (ds : List (Int × Int)) (a : Nat) (h : bodyOK kd d ds) (hat : At l a (bodyW d)) : allR num sg kd a = some (d, a + (bodyW d).length) := by
  obtain ⟨h1, h2, h3, h4⟩ := h
  obtain ⟨st, ms, tt⟩ := d
  simp only at h1 h2 h3
  subst h3
  simp only [bodyW, sitesW_of, sitesOf_len] at hat ⊢
  obtain ⟨hat, e3⟩ := hat.app
  obtain ⟨e1, e2⟩ := hat.app
  unfold allR
  have r1 := listR_reads hn (listR_reads hn (spot_reads hn)) st a h1 e1
  have r2 := listR_reads hn (mark_reads (kd := kd) hn hs) ms _ h2 e2
  rw [List.length_append, ← Nat.add_assoc] at e3
  have r3 := listR_reads hn (spot_reads hn) ds _ h4 e3
  rw [show (st.flatMap stopW) = st.flatMap (fun xs => numsW [(xs.length : Int)] ++ xs.flatMap spotW) from rfl] at r2 r3 ⊢
  rw [r1]
  simp only
  rw [r2]
  simp only
  rw [r3]
  simp only [List.length_append, Option.some.injEq, Prod.mk.injEq, true_and]
  omega

/-! ### Of right information -/
def sgD (d : DebD) : Prop := ∀ m ∈ d.marks, ∀ x ∈ m.locs, isI64 x.a ∧ isI64 x.b
theorem okN_isN {n : Int} (h : okN n = true) : isN n := by
  simp only [okN, Bool.and_eq_true, decide_eq_true_eq] at h; exact h
theorem sitesB_at (nm : Nat) (l : List (Int × Int)) (last : Int) (j : Nat) (h : j < l.length) (hb : sitesB nm last l = true) : siteB nm (lastOf last (l.take j)) l[j] = true := by
  cases e : siteB nm (lastOf last (l.take j)) l[j] with
  | true => rfl
  | false => rw [sitesB_no nm l last j h e] at hb; cases hb
theorem lastOf_take {l : List (Int × Int)} {last : Int} {k : Nat} (h : k < l.length) : lastOf last (l.take (k + 1)) = l[k].1 := by rw [List.take_succ_eq_append_getElem h, lastOf_snoc]
theorem kindB_bd {x : LocD} (h : kindB x = true) : 1 ≤ x.kind ∧ x.kind ≤ 3 ∧ (x.kind = 1 → x.arg = 0 ∧ x.a = 0) := by
  unfold kindB at h
  split at h
  · rename_i h1
    simp only [Bool.and_eq_true, beq_iff_eq] at h
    exact ⟨by omega, by omega, fun _ => h⟩
  · split at h
    · exact ⟨by omega, by omega, fun h2 => by omega⟩
    · split at h
      · exact ⟨by omega, by omega, fun h2 => by omega⟩
      · cases h
structure Right (d : DebD) : Prop where
  lens : d.stops.length ≤ 2147483647 ∧ d.marks.length ≤ 2147483647 ∧ d.sites.length ≤ 2147483647
  spots : ∀ j (h : j < d.stops.length), ∀ x ∈ d.stops[j], isN x.1 ∧ isN x.2
  marks : ∀ j (h : j < d.marks.length), isN d.marks[j].stop
  locs : ∀ j (h : j < d.marks.length), ∀ x ∈ d.marks[j].locs, isN x.depth ∧ isN x.var ∧ isN x.arg ∧ 1 ≤ x.kind ∧ x.kind ≤ 3 ∧ (x.kind = 1 → x.arg = 0 ∧ x.a = 0)
  sites : ∀ j (h : j < d.sites.length), isN d.sites[j].1 ∧ isN d.sites[j].2 ∧ (∀ k, j = k + 1 → ∀ h2 : k < d.sites.length, d.sites[k].1 < d.sites[j].1)
theorem formD_right {d : DebD} (h : formD d = true) : Right d := by
  unfold formD at h
  simp only [Bool.and_eq_true, List.all_eq_true] at h
  obtain ⟨⟨⟨h1, h2⟩, h3⟩, h4⟩ := h
  have l1 := okN_isN (h4 _ (by simp) : okN (d.stops.length : Int) = true)
  have l2 := okN_isN (h4 _ (by simp) : okN (d.marks.length : Int) = true)
  have l3 := okN_isN (h4 _ (by simp) : okN (d.sites.length : Int) = true)
  unfold isN at l1 l2 l3
  refine ⟨⟨by omega, by omega, by omega⟩, fun j hj x hx => ?_, fun j hj => ?_, fun j hj x hx => ?_, fun j hj => ?_⟩
  · have h5 := h1 _ (List.getElem_mem hj)
    simp only [stopB, Bool.and_eq_true, List.all_eq_true] at h5
    have h6 := h5.2 x hx
    simp only [spotB, Bool.and_eq_true] at h6
    exact ⟨okN_isN h6.1, okN_isN h6.2⟩
  · have h5 := h2 _ (List.getElem_mem hj)
    simp only [markB, Bool.and_eq_true, decide_eq_true_eq] at h5
    exact ⟨h5.1.1, by omega⟩
  · have h5 := h2 _ (List.getElem_mem hj)
    simp only [markB, locsB, Bool.and_eq_true, decide_eq_true_eq, List.all_eq_true] at h5
    have h6 := h5.2.1 x hx
    have e : locB (((d.stops.getD d.marks[j].stop.toNat []).length : Nat) : Int) x = true := h6
    simp only [locB, Bool.and_eq_true, decide_eq_true_eq] at e
    have k1 := kindB_bd (x := x) (by simp_all)
    have o1 : okN x.depth = true := by simp_all
    have o2 : okN x.var = true := by simp_all
    have o3 : okN x.arg = true := by simp_all
    exact ⟨okN_isN o1, okN_isN o2, okN_isN o3, k1⟩
  · have h5 := sitesB_at _ _ _ j hj h3
    simp only [siteB, Bool.and_eq_true, decide_eq_true_eq] at h5
    refine ⟨okN_isN h5.1.1.1, ⟨h5.1.2, by omega⟩, fun k hk h2 => ?_⟩
    subst hk
    have := h5.1.1.2
    rwa [lastOf_take h2] at this
theorem flat_le {α : Type} (W : α → List Int) (xs : List α) {j : Nat} (h : j < xs.length) : ((xs.take j).flatMap W).length + (W xs[j]).length ≤ (xs.flatMap W).length := by
  have e : xs.flatMap W = (xs.take (j + 1)).flatMap W ++ (xs.drop (j + 1)).flatMap W := by rw [← List.flatMap_append, List.take_append_drop]
  rw [e, List.take_succ_eq_append_getElem h, List.flatMap_append]
  simp only [List.length_append, List.flatMap_cons, List.flatMap_nil, List.append_nil]
  omega
theorem flat_le' {α : Type} (W : α → List Int) (xs : List α) (j : Nat) : ((xs.take j).flatMap W).length ≤ (xs.flatMap W).length := by
  have e : xs.flatMap W = (xs.take j).flatMap W ++ (xs.drop j).flatMap W := by rw [← List.flatMap_append, List.take_append_drop]
  rw [e, List.length_append]; omega
theorem flat_succ {α : Type} (W : α → List Int) (xs : List α) {j : Nat} (h : j < xs.length) : (xs.take (j + 1)).flatMap W = (xs.take j).flatMap W ++ W xs[j] := by
  rw [List.take_succ_eq_append_getElem h, List.flatMap_append]; simp
theorem sitesW_app : ∀ (l r : List (Int × Int)) (last : Int), sitesW last (l ++ r) = sitesW last l ++ sitesW (lastOf last l) r
  | [], r, last => rfl
  | x :: l, r, last => by simp only [List.cons_append, sitesW, sitesW_app l r x.1, List.append_assoc]; rfl
theorem sitesW_le (xs : List (Int × Int)) (last : Int) (j : Nat) : (sitesW last (xs.take j)).length ≤ (sitesW last xs).length := by
  conv => rhs; rw [← List.take_append_drop j xs]
  rw [sitesW_app, List.length_append]; omega
theorem sitesW_succ (xs : List (Int × Int)) (last : Int) {j : Nat} (h : j < xs.length) : sitesW last (xs.take (j + 1)) = sitesW last (xs.take j) ++ numsW [xs[j].1 - lastOf last (xs.take j), xs[j].2] := by
  rw [List.take_succ_eq_append_getElem h, sitesW_snoc]
end Go.Proofs.YtnanlkoldloolaaDoor

/- The document's reading of bytes and the package's are one: plain. -/
namespace Go.Proofs.YtnanlkoldloolaaDoor
open Go.RowKit

def kdL (k : Int) : Option Int := some (min k 9)
def lenR (l : List Int) : PR DebD := allR (plainP l) (signR (numP l)) kdL
/-- What the document's reader answers. -/
def refDec (l : List Int) : Option DebD :=
  if l.take 4 = magicL then match lenR l 4 with
    | some (d, _) => if formD d = true ∧ encD d = l then some d else none
    | none => none
  else none

/-! ### Lists that are written -/
theorem flat_len {α : Type} {W : α → List Int} : ∀ (xs : List α), (∀ x ∈ xs, 1 ≤ (W x).length) → xs.length ≤ (xs.flatMap W).length
  | [], _ => by simp
  | x :: r, h => by
    have h1 := h x (by simp)
    have h2 := flat_len r (fun y hy => h y (by simp [hy]))
    simp only [List.flatMap_cons, List.length_append, List.length_cons]
    omega
theorem flat_mem {α : Type} {W : α → List Int} {x : α} : ∀ (xs : List α), x ∈ xs → (W x).length ≤ (xs.flatMap W).length
  | y :: r, h => by
    simp only [List.flatMap_cons, List.length_append]
    rcases List.mem_cons.1 h with rfl | h
    · omega
    · have := flat_mem (W := W) r h; omega
theorem numsW_cons_pos (x : Int) (r : List Int) : 1 ≤ (numsW (x :: r)).length := by
  have := numW_pos x.toNat
  simp only [numsW, List.flatMap_cons, List.length_append]
  omega
theorem spotW_pos (x : Int × Int) : 1 ≤ (spotW x).length := numsW_cons_pos _ _
theorem locW_pos (x : LocD) : 1 ≤ (locW x).length := by
  have := numsW_cons_pos x.depth [x.var, x.kind]
  unfold locW
  simp only [List.length_append]
  omega

def diffs : Int → List (Int × Int) → List (Int × Int)
  | _, [] => []
  | last, s :: r => (s.1 - last, s.2) :: diffs s.1 r
theorem sitesOf_diffs : ∀ (l : List (Int × Int)) (last : Int), sitesOf last (diffs last l) = l
  | [], _ => rfl
  | (x, y) :: r, last => by simp only [diffs, sitesOf, show last + (x - last) = x by omega, sitesOf_diffs r x]
theorem diffs_len : ∀ (l : List (Int × Int)) (last : Int), (diffs last l).length = l.length
  | [], _ => rfl
  | s :: r, last => by simp [diffs, diffs_len r s.1]
theorem diffs_ok (nm : Nat) (hnm : nm ≤ 2147483647) : ∀ (l : List (Int × Int)) (last lo : Int), sitesB nm lo l = true → last ≤ lo + 1 → 0 ≤ last → ∀ x ∈ diffs last l, isN x.1 ∧ isN x.2
  | [], _, _, _, _, _, x, hx => by cases hx
  | s :: r, last, lo, h, h2, h3, x, hx => by
    simp only [sitesB, siteB, Bool.and_eq_true, decide_eq_true_eq] at h
    obtain ⟨⟨⟨⟨h4, h5⟩, h6⟩, h7⟩, h8⟩ := h
    have h9 := okN_isN h4
    unfold isN at h9 ⊢
    rcases List.mem_cons.1 hx with rfl | hx
    · exact ⟨⟨by omega, by omega⟩, h6, by omega⟩
    · exact diffs_ok nm hnm r s.1 s.1 h8 (by omega) h9.1 x hx

theorem kd3_ok {k : Int} (h : 1 ≤ k ∧ k ≤ 3) : kd3 k = some k := by unfold kd3; rw [if_pos (by omega)]
theorem kdL_ok {k : Int} (h : 1 ≤ k ∧ k ≤ 3) : kdL k = some k := by unfold kdL; rw [Int.min_eq_left (by omega)]
theorem body_ok {kd : Int → Option Int} (hkd : ∀ k, 1 ≤ k ∧ k ≤ 3 → kd k = some k) {d : DebD} (hf : formD d = true) (hsg : sgD d) (hlen : (encD d).length ≤ 1000000000) : bodyOK kd d (diffs 0 d.sites) := by
  have hr := formD_right hf
  have hl : (bodyW d).length ≤ 1000000000 := by unfold encD at hlen; rw [List.length_append] at hlen; omega
  unfold bodyW at hl
  simp only [List.length_append] at hl
  refine ⟨⟨hr.lens.1, fun s hs => ?_⟩, ⟨hr.lens.2.1, fun m hm => ?_⟩, (sitesOf_diffs _ _).symm, by rw [diffs_len]; exact hr.lens.2.2, ?_⟩
  · have h1 := flat_mem (W := stopW) _ hs
    have h2 := flat_len (W := spotW) s (fun x _ => spotW_pos x)
    have h3 : (stopW s).length = (numsW [(s.length : Int)]).length + (s.flatMap spotW).length := by simp only [stopW, List.length_append]
    obtain ⟨j, hj, rfl⟩ := List.getElem_of_mem hs
    exact ⟨by omega, fun x hx => hr.spots j hj x hx⟩
  · have h1 := flat_mem (W := markW) _ hm
    have h2 := flat_len (W := locW) m.locs (fun x _ => locW_pos x)
    have h3 := hsg m hm
    have h4 : (markW m).length = (numsW [m.stop, (m.locs.length : Int)]).length + (m.locs.flatMap locW).length := by simp only [markW, List.length_append]
    obtain ⟨j, hj, rfl⟩ := List.getElem_of_mem hm
    refine ⟨hr.marks j hj, by omega, fun x hx => ?_⟩
    obtain ⟨a1, a2, a3, a4, a5, a6⟩ := hr.locs j hj x hx
    exact ⟨a1, a2, ⟨by omega, by omega⟩, hkd _ ⟨a4, a5⟩, a3, (h3 x hx).1, (h3 x hx).2, a6⟩
  · have h1 : sitesB d.marks.length (-1) d.sites = true := by
      unfold formD at hf
      simp only [Bool.and_eq_true] at hf
      exact hf.1.2
    exact diffs_ok _ hr.lens.2.1 _ 0 (-1) h1 (by omega) (by omega)
theorem numOK_strict (l : List Int) : NumOK l (plainR l) := fun n a h0 h1 hat => by
  have h2 := numR_numW (by omega : n.toNat < 18446744073709551616) hat
  have e : ((n.toNat : Nat) : Int) = n := by omega
  rw [e] at h2
  simp only [plainR, h2, if_pos h1]
theorem numOK_len (l : List Int) : NumOK l (plainP l) := fun n a h0 h1 hat => by
  have h2 := numP_numW (by omega : n.toNat < 18446744073709551616) hat
  have e : ((n.toNat : Nat) : Int) = n := by omega
  rw [e] at h2
  simp only [plainP, h2, if_pos h1]
theorem sgOK_strict (l : List Int) : SgOK l (signR (numR l)) := fun _ _ hn hat => signR_signW (fun _ _ h1 h2 => numR_numW h1 h2) hn hat
theorem sgOK_len (l : List Int) : SgOK l (signR (numP l)) := fun _ _ hn hat => signR_signW (fun _ _ h1 h2 => numP_numW h1 h2) hn hat
theorem at_enc (d : DebD) : At (encD d) 4 (bodyW d) := ⟨[], by simp [encD, magicL]⟩
theorem encD_len (d : DebD) : (encD d).length = 4 + (bodyW d).length := by simp [encD, magicL]; omega
theorem len_enc {d : DebD} (hf : formD d = true) (hsg : sgD d) (hlen : (encD d).length ≤ 1000000000) : lenR (encD d) 4 = some (d, (encD d).length) := by
  unfold lenR
  rw [all_reads (numOK_len _) (sgOK_len _) d _ 4 (body_ok (fun _ h => kdL_ok h) hf hsg hlen) (at_enc d), encD_len]
theorem strict_enc {d : DebD} (hf : formD d = true) (hsg : sgD d) (hlen : (encD d).length ≤ 1000000000) : allR (plainR (encD d)) (signR (numR (encD d))) kd3 4 = some (d, (encD d).length) := by
  rw [all_reads (numOK_strict _) (sgOK_strict _) d _ 4 (body_ok (fun _ h => kd3_ok h) hf hsg hlen) (at_enc d), encD_len]

theorem all_two (l : List Int) (a : Nat) : allR (plainR l) (signR (numR l)) kd3 a = (allR' l a).map fun x => (⟨x.1.1, x.1.2.1, sitesOf 0 x.1.2.2⟩, x.2) := by
  unfold allR allR'
  show (match listR (plainR l) (stopR l) a with | some (st, b) => _ | none => none) = _
  cases listR (plainR l) (stopR l) a with
  | none => rfl
  | some x =>
    obtain ⟨st, b⟩ := x
    simp only
    show (match listR (plainR l) (markRd l) b with | some (ms, c) => _ | none => none) = _
    cases listR (plainR l) (markRd l) b with
    | none => rfl
    | some y =>
      obtain ⟨ms, c⟩ := y
      simp only
      cases listR (plainR l) (spotR (plainR l)) c with
      | none => rfl
      | some z => rfl
theorem decD_all (l : List Int) : decD l = if l.take 4 = magicL then match allR (plainR l) (signR (numR l)) kd3 4 with
    | some (d, a) => if a = l.length ∧ formD d = true then some d else none
    | none => none else none := by
  unfold decD
  rw [all_two]
  cases allR' l 4 with
  | none => rfl
  | some x => obtain ⟨⟨st, ms, ds⟩, a⟩ := x; rfl
theorem decD_enc {d : DebD} (hf : formD d = true) (hsg : sgD d) (hlen : (encD d).length ≤ 1000000000) : decD (encD d) = some d := by
  rw [decD_all, strict_enc hf hsg hlen, if_pos (by simp [encD, magicL])]
  simp [hf]

/-! ### What was read was written -/
def Wrote {α : Type} (l : List Int) (one : PR α) (W : α → List Int) (P : α → Prop) : Prop := ∀ a x b, one a = some (x, b) → At l a (W x) ∧ b = a + (W x).length ∧ P x
theorem listN_wrote {α : Type} {l : List Int} {one : PR α} {W : α → List Int} {P : α → Prop} (h : Wrote l one W P) : ∀ (n a : Nat) (xs : List α) (b : Nat), listN one n a = some (xs, b) → At l a (xs.flatMap W) ∧ b = a + (xs.flatMap W).length ∧ ∀ x ∈ xs, P x
  | 0, a, xs, b, e => by cases e; exact ⟨At.nil _ _, rfl, fun x hx => by cases hx⟩
  | n + 1, a, xs, b, e => by
    simp only [listN] at e
    cases e1 : listN one n a with
    | none => rw [e1] at e; cases e
    | some p =>
      obtain ⟨ys, c⟩ := p
      rw [e1] at e
      simp only at e
      cases e2 : one c with
      | none => rw [e2] at e; cases e
      | some q =>
        obtain ⟨x, b2⟩ := q
        rw [e2] at e
        simp only [Option.some.injEq, Prod.mk.injEq] at e
        obtain ⟨rfl, rfl⟩ := e
        obtain ⟨i1, rfl, i3⟩ := listN_wrote h n a ys c e1
        obtain ⟨j1, rfl, j3⟩ := h _ _ _ e2
        rw [List.flatMap_append, List.flatMap_cons, List.flatMap_nil, List.append_nil]
        refine ⟨At.cat i1 j1, by rw [List.length_append]; omega, fun z hz => ?_⟩
        rcases List.mem_append.1 hz with h1 | h1
        · exact i3 z h1
        · simp only [List.mem_singleton] at h1; subst h1; exact j3
def WroteN (l : List Int) (num : PR Int) : Prop := ∀ a n b, num a = some (n, b) → At l a (numW n.toNat) ∧ b = a + (numW n.toNat).length ∧ 0 ≤ n
theorem plain_wrote {l : List Int} (hB : isB l) : WroteN l (plainR l) := by
  intro a n b h
  unfold plainR at h
  cases e : numR l a with
  | none => rw [e] at h; cases h
  | some x =>
    obtain ⟨n1, a1⟩ := x
    rw [e] at h
    simp only at h
    split at h
    · simp only [Option.some.injEq, Prod.mk.injEq] at h
      obtain ⟨rfl, rfl⟩ := h
      have h1 := numR_wrote hB e
      have h2 := numR_bd hB e
      exact ⟨h1.1, h1.2, h2.1⟩
    · cases h
theorem sign_wrote {l : List Int} (hB : isB l) : Wrote l (signR (numR l)) signW isI64 := by
  intro a n b h
  unfold signR at h
  cases e : numR l a with
  | none => rw [e] at h; cases h
  | some x =>
    obtain ⟨n1, a1⟩ := x
    rw [e] at h
    simp only [Option.some.injEq, Prod.mk.injEq] at h
    obtain ⟨rfl, rfl⟩ := h
    have h1 := numR_wrote hB e
    have h2 := numR_bd hB e
    unfold signW
    rw [zig_unzig h2.1]
    exact ⟨h1.1, h1.2, unzig_bd h2.1 h2.2.2.2⟩
theorem listR_wrote {α : Type} {l : List Int} {num : PR Int} {one : PR α} {W : α → List Int} {P : α → Prop} (hn : WroteN l num) (h : Wrote l one W P) : Wrote l (listR num one) (fun xs => numsW [(xs.length : Int)] ++ xs.flatMap W) (fun xs => ∀ x ∈ xs, P x) := by
  intro a xs b e
  unfold listR at e
  cases e1 : num a with
  | none => rw [e1] at e; cases e
  | some p =>
    obtain ⟨n, c⟩ := p
    rw [e1] at e
    simp only at e
    obtain ⟨i1, rfl, i3⟩ := hn _ _ _ e1
    obtain ⟨j1, rfl, j3⟩ := listN_wrote h _ _ _ _ e
    have hl := listN_len e
    simp only [numsW_1, Int.toNat_natCast, hl]
    exact ⟨At.cat i1 j1, by rw [List.length_append]; omega, j3⟩
theorem spot_wrote {l : List Int} {num : PR Int} (hn : WroteN l num) : Wrote l (spotR num) spotW (fun _ => True) := by
  rintro a ⟨x, y⟩ b e
  unfold spotR at e
  cases e1 : num a with
  | none => rw [e1] at e; cases e
  | some p =>
    obtain ⟨n, c⟩ := p
    rw [e1] at e
    simp only at e
    cases e2 : num c with
    | none => rw [e2] at e; cases e
    | some q =>
      obtain ⟨m, c2⟩ := q
      rw [e2] at e
      simp only [Option.some.injEq, Prod.mk.injEq] at e
      obtain ⟨⟨rfl, rfl⟩, rfl⟩ := e
      obtain ⟨i1, rfl, i3⟩ := hn _ _ _ e1
      obtain ⟨j1, rfl, j3⟩ := hn _ _ _ e2
      simp only [spotW, numsW_2]
      exact ⟨At.cat i1 j1, by rw [List.length_append]; omega, trivial⟩
theorem loc_wrote {l : List Int} {num sg : PR Int} {kd : Int → Option Int} (hkd : ∀ k k', kd k = some k' → k' = k) (hn : WroteN l num) (hs : Wrote l sg signW isI64) : Wrote l (locR num sg kd) locW (fun x => isI64 x.a ∧ isI64 x.b) := by
  intro a x b e
  unfold locR at e
  cases e1 : num a with
  | none => rw [e1] at e; cases e
  | some p =>
    obtain ⟨dd, c⟩ := p
    rw [e1] at e
    simp only at e
    cases e2 : num c with
    | none => rw [e2] at e; cases e
    | some q =>
      obtain ⟨vv, c2⟩ := q
      rw [e2] at e
      simp only at e
      cases e3 : num c2 with
      | none => rw [e3] at e; cases e
      | some r =>
        obtain ⟨kk, c3⟩ := r
        rw [e3] at e
        simp only at e
        cases e4 : kd kk with
        | none => rw [e4] at e; cases e
        | some k' =>
          obtain rfl := hkd _ _ e4
          rw [e4] at e
          simp only at e
          obtain ⟨i1, rfl, -⟩ := hn _ _ _ e1
          obtain ⟨i2, rfl, -⟩ := hn _ _ _ e2
          obtain ⟨i3, rfl, -⟩ := hn _ _ _ e3
          have h3 : At l a (numsW [dd, vv, k']) := by
            rw [numsW_3]
            exact At.cat (At.cat i1 i2) (by rw [List.length_append, ← Nat.add_assoc]; exact i3)
          have hl3 : a + (numW dd.toNat).length + (numW vv.toNat).length + (numW k'.toNat).length = a + (numsW [dd, vv, k']).length := by rw [numsW_3]; simp only [List.length_append]; omega
          rw [hl3] at e
          unfold locTail at e
          by_cases k1 : k' = 1
          · rw [if_pos k1] at e
            cases e5 : sg (a + (numsW [dd, vv, k']).length) with
            | none => rw [e5] at e; cases e
            | some z =>
              obtain ⟨xb, f⟩ := z
              rw [e5] at e
              simp only [Option.some.injEq, Prod.mk.injEq] at e
              obtain ⟨rfl, rfl⟩ := e
              obtain ⟨i5, rfl, i6⟩ := hs _ _ _ e5
              simp only [locW, if_pos k1, List.append_nil]
              exact ⟨At.cat h3 i5, by rw [List.length_append]; omega, by unfold isI64; omega, i6⟩
          · rw [if_neg k1] at e
            cases e5 : num (a + (numsW [dd, vv, k']).length) with
            | none => rw [e5] at e; cases e
            | some z =>
              obtain ⟨ar, f⟩ := z
              rw [e5] at e
              simp only at e
              cases e6 : sg f with
              | none => rw [e6] at e; cases e
              | some z2 =>
                obtain ⟨xa, g⟩ := z2
                rw [e6] at e
                simp only at e
                cases e7 : sg g with
                | none => rw [e7] at e; cases e
                | some z3 =>
                  obtain ⟨xb, h⟩ := z3
                  rw [e7] at e
                  simp only [Option.some.injEq, Prod.mk.injEq] at e
                  obtain ⟨rfl, rfl⟩ := e
                  obtain ⟨i5, rfl, -⟩ := hn _ _ _ e5
                  obtain ⟨i6, rfl, i6'⟩ := hs _ _ _ e6
                  obtain ⟨i7, rfl, i7'⟩ := hs _ _ _ e7
                  simp only [locW, if_neg k1, numsW_1]
                  refine ⟨At.cat (At.cat h3 (At.cat i5 i6)) ?_, by simp only [List.length_append]; omega, i6', i7'⟩
                  simp only [List.length_append, ← Nat.add_assoc]
                  exact i7
theorem mark_wrote {l : List Int} {num sg : PR Int} {kd : Int → Option Int} (hkd : ∀ k k', kd k = some k' → k' = k) (hn : WroteN l num) (hs : Wrote l sg signW isI64) : Wrote l (markR num sg kd) markW (fun m => ∀ x ∈ m.locs, isI64 x.a ∧ isI64 x.b) := by
  intro a m b e
  unfold markR at e
  cases e1 : num a with
  | none => rw [e1] at e; cases e
  | some p =>
    obtain ⟨n, c⟩ := p
    rw [e1] at e
    simp only at e
    cases e2 : listR num (locR num sg kd) c with
    | none => rw [e2] at e; cases e
    | some q =>
      obtain ⟨ls, c2⟩ := q
      rw [e2] at e
      simp only [Option.some.injEq, Prod.mk.injEq] at e
      obtain ⟨rfl, rfl⟩ := e
      obtain ⟨i1, rfl, -⟩ := hn _ _ _ e1
      obtain ⟨j1, rfl, j3⟩ := listR_wrote hn (loc_wrote hkd hn hs) _ _ _ e2
      simp only [markW]
      rw [show numsW [n, (ls.length : Int)] = numW n.toNat ++ numsW [(ls.length : Int)] by rw [numsW_2, numsW_1], List.append_assoc]
      exact ⟨At.cat i1 j1, by simp only [List.length_append]; omega, j3⟩
theorem all_wrote {l : List Int} {num sg : PR Int} {kd : Int → Option Int} (hkd : ∀ k k', kd k = some k' → k' = k) (hn : WroteN l num) (hs : Wrote l sg signW isI64) : Wrote l (allR num sg kd) bodyW sgD := by
  intro a d b e
  unfold allR at e
  cases e1 : listR num (listR num (spotR num)) a with
  | none => rw [e1] at e; cases e
  | some p =>
    obtain ⟨st, c⟩ := p
    rw [e1] at e
    simp only at e
    cases e2 : listR num (markR num sg kd) c with
    | none => rw [e2] at e; cases e
    | some q =>
      obtain ⟨ms, c2⟩ := q
      rw [e2] at e
      simp only at e
      cases e3 : listR num (spotR num) c2 with
      | none => rw [e3] at e; cases e
      | some r =>
        obtain ⟨ds, c3⟩ := r
        rw [e3] at e
        simp only [Option.some.injEq, Prod.mk.injEq] at e
        obtain ⟨rfl, rfl⟩ := e
        obtain ⟨i1, rfl, -⟩ := listR_wrote hn (listR_wrote hn (spot_wrote hn)) _ _ _ e1
        obtain ⟨j1, rfl, j3⟩ := listR_wrote hn (mark_wrote hkd hn hs) _ _ _ e2
        obtain ⟨k1, rfl, -⟩ := listR_wrote hn (spot_wrote hn) _ _ _ e3
        have hb : bodyW ⟨st, ms, sitesOf 0 ds⟩ = (numsW [(st.length : Int)] ++ st.flatMap (fun xs => numsW [(xs.length : Int)] ++ xs.flatMap spotW)) ++ (numsW [(ms.length : Int)] ++ ms.flatMap markW) ++ (numsW [(ds.length : Int)] ++ ds.flatMap spotW) := by
          unfold bodyW
          simp only [sitesW_of, sitesOf_len]
          rfl
        rw [hb]
        refine ⟨At.cat (At.cat i1 j1) ?_, ?_, j3⟩
        · rw [List.length_append, ← Nat.add_assoc]; exact k1
        · simp only [List.length_append]; omega

theorem take4 {l : List Int} (h : l.take 4 = magicL) : l = magicL ++ l.drop 4 := by
  conv => lhs; rw [← List.take_append_drop 4 l]
  rw [h]
theorem decD_wrote {l : List Int} {d : DebD} (hB : isB l) (h : decD l = some d) : formD d = true ∧ sgD d ∧ encD d = l := by
  rw [decD_all] at h
  split at h
  · rename_i hm
    cases e : allR (plainR l) (signR (numR l)) kd3 4 with
    | none => rw [e] at h; cases h
    | some x =>
      obtain ⟨d1, a⟩ := x
      rw [e] at h
      simp only at h
      split at h
      · rename_i hc
        simp only [Option.some.injEq] at h
        subst h
        obtain ⟨i1, i2, i3⟩ := all_wrote (fun k k' hk => by unfold kd3 at hk; split at hk; exact (Option.some.inj hk).symm; cases hk) (plain_wrote hB) (sign_wrote hB) _ _ _ e
        refine ⟨hc.2, i3, ?_⟩
        have h4 := i1.eq (by rw [← i2]; exact hc.1)
        rw [hm] at h4
        exact h4.symm
      · cases h
  · cases h

/-! ### What is read is not much -/
def Cheap {α : Type} (l : List Int) (one : PR α) (W : α → List Int) (P : α → Prop) : Prop := ∀ a x b, one a = some (x, b) → a < b ∧ b ≤ l.length ∧ (W x).length ≤ 9 * (b - a) ∧ P x
theorem listN_cheap {α : Type} {l : List Int} {one : PR α} {W : α → List Int} {P : α → Prop} (h : Cheap l one W P) : ∀ (n a : Nat) (xs : List α) (b : Nat), a ≤ l.length → listN one n a = some (xs, b) → a + n ≤ b ∧ b ≤ l.length ∧ (xs.flatMap W).length ≤ 9 * (b - a) ∧ ∀ x ∈ xs, P x
  | 0, a, xs, b, ha, e => by cases e; exact ⟨by omega, ha, by simp, fun x hx => by cases hx⟩
  | n + 1, a, xs, b, ha, e => by
    simp only [listN] at e
    cases e1 : listN one n a with
    | none => rw [e1] at e; cases e
    | some p =>
      obtain ⟨ys, c⟩ := p
      rw [e1] at e
      simp only at e
      cases e2 : one c with
      | none => rw [e2] at e; cases e
      | some q =>
        obtain ⟨x, b2⟩ := q
        rw [e2] at e
        simp only [Option.some.injEq, Prod.mk.injEq] at e
        obtain ⟨rfl, rfl⟩ := e
        obtain ⟨i1, i2, i3, i4⟩ := listN_cheap h n a ys c ha e1
        obtain ⟨j1, j2, j3, j4⟩ := h _ _ _ e2
        rw [List.flatMap_append, List.flatMap_cons, List.flatMap_nil, List.append_nil]
        refine ⟨by omega, j2, by rw [List.length_append]; omega, fun z hz => ?_⟩
        rcases List.mem_append.1 hz with h1 | h1
        · exact i4 z h1
        · simp only [List.mem_singleton] at h1; subst h1; exact j4
def CheapN (l : List Int) (num : PR Int) : Prop := ∀ a n b, num a = some (n, b) → a < b ∧ b ≤ l.length ∧ isN n ∧ (numW n.toNat).length ≤ 9
theorem plain_cheap {l : List Int} (hB : isB l) : CheapN l (plainP l) := fun a n b h => by
  have h1 := plainP_bd hB h
  exact ⟨h1.2.2.1, h1.2.2.2, ⟨h1.1, h1.2.1⟩, numW_len _ (by omega)⟩
theorem sign_cheap {l : List Int} (hB : isB l) : Cheap l (signR (numP l)) signW isI64 := by
  intro a n b h
  unfold signR at h
  cases e : numP l a with
  | none => rw [e] at h; cases h
  | some x =>
    obtain ⟨n1, a1⟩ := x
    rw [e] at h
    simp only [Option.some.injEq, Prod.mk.injEq] at h
    obtain ⟨rfl, rfl⟩ := h
    have h2 := numP_cheap hB e
    have h3 := numP_bd hB e
    unfold signW
    rw [zig_unzig h2.2.2.1]
    exact ⟨h2.1, h2.2.1, by omega, unzig_bd h3.1 h3.2.2.2⟩
theorem listR_cheap {α : Type} {l : List Int} {num : PR Int} {one : PR α} {W : α → List Int} {P : α → Prop} (hn : CheapN l num) (h : Cheap l one W P) : Cheap l (listR num one) (fun xs => numsW [(xs.length : Int)] ++ xs.flatMap W) (fun xs => xs.length ≤ l.length ∧ ∀ x ∈ xs, P x) := by
  intro a xs b e
  unfold listR at e
  cases e1 : num a with
  | none => rw [e1] at e; cases e
  | some p =>
    obtain ⟨n, c⟩ := p
    rw [e1] at e
    simp only at e
    obtain ⟨i1, i2, i3, i4⟩ := hn _ _ _ e1
    obtain ⟨j1, j2, j3, j4⟩ := listN_cheap h _ _ _ _ i2 e
    have hl := listN_len e
    simp only [numsW_1, Int.toNat_natCast, hl]
    exact ⟨by omega, j2, by rw [List.length_append]; omega, by omega, j4⟩
theorem spot_cheap {l : List Int} {num : PR Int} (hn : CheapN l num) : Cheap l (spotR num) spotW (fun x => isN x.1 ∧ isN x.2) := by
  rintro a ⟨x, y⟩ b e
  unfold spotR at e
  cases e1 : num a with
  | none => rw [e1] at e; cases e
  | some p =>
    obtain ⟨n, c⟩ := p
    rw [e1] at e
    simp only at e
    cases e2 : num c with
    | none => rw [e2] at e; cases e
    | some q =>
      obtain ⟨m, c2⟩ := q
      rw [e2] at e
      simp only [Option.some.injEq, Prod.mk.injEq] at e
      obtain ⟨⟨rfl, rfl⟩, rfl⟩ := e
      have i := hn _ _ _ e1
      have j := hn _ _ _ e2
      simp only [spotW, numsW_2, List.length_append]
      exact ⟨by omega, by omega, by omega, i.2.2.1, j.2.2.1⟩
theorem loc_cheap {l : List Int} {num sg : PR Int} {kd : Int → Option Int} (hkd : ∀ k k', kd k = some k' → 0 ≤ k → 0 ≤ k' ∧ k' ≤ k) (hn : CheapN l num) (hs : Cheap l sg signW isI64) : Cheap l (locR num sg kd) locW (fun x => isI64 x.a ∧ isI64 x.b) := by
  intro a x b e
  unfold locR at e
  cases e1 : num a with
  | none => rw [e1] at e; cases e
  | some p =>
    obtain ⟨dd, c⟩ := p
    rw [e1] at e
    simp only at e
    cases e2 : num c with
    | none => rw [e2] at e; cases e
    | some q =>
      obtain ⟨vv, c2⟩ := q
      rw [e2] at e
      simp only at e
      cases e3 : num c2 with
      | none => rw [e3] at e; cases e
      | some r =>
        obtain ⟨kk, c3⟩ := r
        rw [e3] at e
        simp only at e
        cases e4 : kd kk with
        | none => rw [e4] at e; cases e
        | some k' =>
          rw [e4] at e
          simp only at e
          have i1 := hn _ _ _ e1
          have i2 := hn _ _ _ e2
          have i3 := hn _ _ _ e3
          have hk := hkd _ _ e4 i3.2.2.1.1
          have i3' := numW_len k'.toNat (by have := i3.2.2.1.2; omega)
          unfold locTail at e
          by_cases k1 : k' = 1
          · rw [if_pos k1] at e
            cases e5 : sg c3 with
            | none => rw [e5] at e; cases e
            | some z =>
              obtain ⟨xb, f⟩ := z
              rw [e5] at e
              simp only [Option.some.injEq, Prod.mk.injEq] at e
              obtain ⟨rfl, rfl⟩ := e
              have i5 := hs _ _ _ e5
              simp only [locW, if_pos k1, numsW_3, List.length_append, List.append_nil]
              exact ⟨by omega, by omega, by omega, by unfold isI64; omega, i5.2.2.2⟩
          · rw [if_neg k1] at e
            cases e5 : num c3 with
            | none => rw [e5] at e; cases e
            | some z =>
              obtain ⟨ar, f⟩ := z
              rw [e5] at e
              simp only at e
              cases e6 : sg f with
              | none => rw [e6] at e; cases e
              | some z2 =>
                obtain ⟨xa, g⟩ := z2
                rw [e6] at e
                simp only at e
                cases e7 : sg g with
                | none => rw [e7] at e; cases e
                | some z3 =>
                  obtain ⟨xb, h⟩ := z3
                  rw [e7] at e
                  simp only [Option.some.injEq, Prod.mk.injEq] at e
                  obtain ⟨rfl, rfl⟩ := e
                  have i5 := hn _ _ _ e5
                  have i6 := hs _ _ _ e6
                  have i7 := hs _ _ _ e7
                  simp only [locW, if_neg k1, numsW_1, numsW_3, List.length_append]
                  exact ⟨by omega, by omega, by omega, i6.2.2.2, i7.2.2.2⟩
theorem mark_cheap {l : List Int} {num sg : PR Int} {kd : Int → Option Int} (hkd : ∀ k k', kd k = some k' → 0 ≤ k → 0 ≤ k' ∧ k' ≤ k) (hn : CheapN l num) (hs : Cheap l sg signW isI64) : Cheap l (markR num sg kd) markW (fun m => ∀ x ∈ m.locs, isI64 x.a ∧ isI64 x.b) := by
  intro a m b e
  unfold markR at e
  cases e1 : num a with
  | none => rw [e1] at e; cases e
  | some p =>
    obtain ⟨n, c⟩ := p
    rw [e1] at e
    simp only at e
    cases e2 : listR num (locR num sg kd) c with
    | none => rw [e2] at e; cases e
    | some q =>
      obtain ⟨ls, c2⟩ := q
      rw [e2] at e
      simp only [Option.some.injEq, Prod.mk.injEq] at e
      obtain ⟨rfl, rfl⟩ := e
      have i := hn _ _ _ e1
      have j := listR_cheap hn (loc_cheap hkd hn hs) _ _ _ e2
      have j3 := j.2.2.1
      simp only [List.length_append, numsW_1] at j3
      simp only [markW, numsW_2, List.length_append]
      exact ⟨by omega, by omega, by omega, j.2.2.2.2⟩
theorem all_cheap {l : List Int} {num sg : PR Int} {kd : Int → Option Int} (hkd : ∀ k k', kd k = some k' → 0 ≤ k → 0 ≤ k' ∧ k' ≤ k) (hn : CheapN l num) (hs : Cheap l sg signW isI64) : Cheap l (allR num sg kd) bodyW (fun d => sgD d ∧ d.stops.length ≤ l.length ∧ d.marks.length ≤ l.length ∧ d.sites.length ≤ l.length) := by
  intro a d b e
  unfold allR at e
  cases e1 : listR num (listR num (spotR num)) a with
  | none => rw [e1] at e; cases e
  | some p =>
    obtain ⟨st, c⟩ := p
    rw [e1] at e
    simp only at e
    cases e2 : listR num (markR num sg kd) c with
    | none => rw [e2] at e; cases e
    | some q =>
      obtain ⟨ms, c2⟩ := q
      rw [e2] at e
      simp only at e
      cases e3 : listR num (spotR num) c2 with
      | none => rw [e3] at e; cases e
      | some r =>
        obtain ⟨ds, c3⟩ := r
        rw [e3] at e
        simp only [Option.some.injEq, Prod.mk.injEq] at e
        obtain ⟨rfl, rfl⟩ := e
        have i := listR_cheap hn (listR_cheap hn (spot_cheap hn)) _ _ _ e1
        have j := listR_cheap hn (mark_cheap hkd hn hs) _ _ _ e2
        have k := listR_cheap hn (spot_cheap hn) _ _ _ e3
        have hb : (bodyW ⟨st, ms, sitesOf 0 ds⟩).length = (numsW [(st.length : Int)] ++ st.flatMap (fun xs => numsW [(xs.length : Int)] ++ xs.flatMap spotW)).length + (numsW [(ms.length : Int)] ++ ms.flatMap markW).length + (numsW [(ds.length : Int)] ++ ds.flatMap spotW).length := by
          unfold bodyW
          simp only [sitesW_of, sitesOf_len, List.length_append]
          rfl
        rw [hb]
        have i3 : (numsW [(st.length : Int)] ++ st.flatMap (fun xs => numsW [(xs.length : Int)] ++ xs.flatMap spotW)).length ≤ 9 * (c - a) := i.2.2.1
        have j3 : (numsW [(ms.length : Int)] ++ ms.flatMap markW).length ≤ 9 * (c2 - c) := j.2.2.1
        have k3 : (numsW [(ds.length : Int)] ++ ds.flatMap spotW).length ≤ 9 * (c3 - c2) := k.2.2.1
        exact ⟨by omega, by omega, by omega, j.2.2.2.2, i.2.2.2.1, j.2.2.2.1, by simp only [sitesOf_len]; exact k.2.2.2.1⟩
theorem lenR_cheap {l : List Int} (hB : isB l) {d : DebD} {b : Nat} (h : lenR l 4 = some (d, b)) : 4 < b ∧ b ≤ l.length ∧ (encD d).length ≤ 9 * l.length ∧ sgD d ∧ d.stops.length ≤ l.length ∧ d.marks.length ≤ l.length ∧ d.sites.length ≤ l.length := by
  have := all_cheap (l := l) (kd := kdL) (fun k k' hk h0 => by unfold kdL at hk; cases hk; omega) (plain_cheap hB) (sign_cheap hB) _ _ _ h
  rw [encD_len]
  exact ⟨this.1, this.2.1, by omega, this.2.2.2⟩

/-- The two readers answer alike. -/
theorem ref_dec {l : List Int} (hB : isB l) (hlen : l.length ≤ 1000000000) : refDec l = decD l := by
  cases e : decD l with
  | some d =>
    obtain ⟨h1, h2, h3⟩ := decD_wrote hB e
    have hl : (encD d).length ≤ 1000000000 := by rw [h3]; exact hlen
    have h4 := len_enc h1 h2 hl
    rw [h3] at h4
    have hm : l.take 4 = magicL := by rw [← h3]; simp [encD, magicL]
    unfold refDec
    rw [if_pos hm, h4]
    simp only [h1, h3, and_self, if_true]
  | none =>
    unfold refDec
    split
    · cases e2 : lenR l 4 with
      | none => rfl
      | some x =>
        obtain ⟨d, b⟩ := x
        simp only
        split
        · rename_i hc
          have h5 := lenR_cheap hB e2
          have hl : (encD d).length ≤ 1000000000 := by rw [hc.2]; exact hlen
          have h6 := decD_enc hc.1 h5.2.2.2.1 hl
          rw [hc.2, e] at h6
          cases h6
        · rfl
    · rfl
end Go.Proofs.YtnanlkoldloolaaDoor

/- The document's reader on the way: what is read of what, and where it lies. -/
namespace Go.Proofs.YtnanlkoldloolaaDoor
open Go.RowKit

/-- From here to there this was read; or it failed, and then it cannot be read. -/
def Rel {α : Type} (one : PR α) (s s' : Option Nat) (x : α) : Prop := (∀ b, s' = some b → ∃ a, s = some a ∧ one a = some (x, b)) ∧ (s' = none → ∀ a, s = some a → one a = none)
theorem rel_rdN (num : PR Int) (s : Option Nat) : Rel num s (rdN num s).2 (rdN num s).1 := by
  cases s with
  | none => exact ⟨fun b h => by simp [rdN] at h, fun _ a h => by cases h⟩
  | some a =>
    cases e : num a with
    | none => exact ⟨fun b h => by simp [rdN, e] at h, fun _ a' h => by cases h; exact e⟩
    | some x =>
      obtain ⟨n, b⟩ := x
      exact ⟨fun b' h => by simp [rdN, e] at h; subst h; exact ⟨a, rfl, by simp [rdN, e]⟩, fun h => by simp [rdN, e] at h⟩
def bindR {α β : Type} (f : PR α) (g : α → PR β) : PR β := fun a => match f a with | some (x, b) => g x b | none => none
def pureR {α : Type} (x : α) : PR α := fun a => some (x, a)
theorem Rel.bind {α β : Type} {f : PR α} {g : α → PR β} {s s1 s2 : Option Nat} {x : α} {y : β} (h : Rel f s s1 x) (k : Rel (g x) s1 s2 y) : Rel (bindR f g) s s2 y := by
  constructor
  · intro b hb
    obtain ⟨a1, h1, h2⟩ := k.1 b hb
    obtain ⟨a, h3, h4⟩ := h.1 a1 h1
    exact ⟨a, h3, by simp only [bindR, h4, h2]⟩
  · intro hn a ha
    cases e : s1 with
    | none => simp only [bindR, h.2 e a ha]
    | some a1 =>
      obtain ⟨a', h3, h4⟩ := h.1 a1 e
      rw [ha] at h3
      cases h3
      simp only [bindR, h4, k.2 hn a1 e]
theorem Rel.pure {α : Type} (s : Option Nat) (x : α) : Rel (pureR x) s s x := ⟨fun b h => ⟨b, h, rfl⟩, fun h a ha => by rw [h] at ha; cases ha⟩
theorem bind_spot (num : PR Int) : spotR num = bindR num fun x => bindR num fun y => pureR (x, y) := by
  funext a
  unfold spotR bindR pureR
  cases num a with
  | none => rfl
  | some p => obtain ⟨x, b⟩ := p; simp only; cases num b <;> rfl
theorem bind_list {α : Type} (num : PR Int) (one : PR α) : listR num one = bindR num fun n => listN one n.toNat := by
  funext a
  unfold listR bindR
  cases num a <;> rfl
theorem bind_tail1 (num sg : PR Int) (d v : Int) : locTail num sg d v 1 = bindR sg fun b => pureR ⟨d, v, 1, 0, 0, b⟩ := by
  funext a
  unfold locTail bindR pureR
  rw [if_pos rfl]
  cases sg a <;> rfl
theorem bind_tail {num sg : PR Int} {d v k : Int} (hk : k ≠ 1) : locTail num sg d v k = bindR num fun x => bindR sg fun y => bindR sg fun b => pureR ⟨d, v, k, x, y, b⟩ := by
  funext a
  unfold locTail bindR pureR
  rw [if_neg hk]
  cases num a with
  | none => rfl
  | some p =>
    obtain ⟨x, b⟩ := p
    simp only
    cases sg b with
    | none => rfl
    | some q => obtain ⟨y, c⟩ := q; simp only; cases sg c <;> rfl
theorem bind_loc (num sg : PR Int) : locR num sg kdL = bindR num fun d => bindR num fun v => bindR num fun k => locTail num sg d v (min k 9) := by
  funext a
  unfold locR bindR kdL
  cases num a with
  | none => rfl
  | some p =>
    obtain ⟨x, b⟩ := p
    simp only
    cases num b with
    | none => rfl
    | some q => obtain ⟨y, c⟩ := q; simp only; cases num c <;> rfl
theorem bind_mark (num sg : PR Int) (kd : Int → Option Int) : markR num sg kd = bindR num fun s => bindR (listR num (locR num sg kd)) fun ls => pureR ⟨s, ls⟩ := by
  funext a
  unfold markR bindR pureR
  cases num a with
  | none => rfl
  | some p => obtain ⟨x, b⟩ := p; simp only; cases listR num (locR num sg kd) b <;> rfl
theorem bind_all (num sg : PR Int) (kd : Int → Option Int) : allR num sg kd = bindR (listR num (listR num (spotR num))) fun st => bindR (listR num (markR num sg kd)) fun ms => bindR (listR num (spotR num)) fun ds => pureR ⟨st, ms, sitesOf 0 ds⟩ := by
  funext a
  unfold allR bindR pureR
  cases listR num (listR num (spotR num)) a with
  | none => rfl
  | some p =>
    obtain ⟨x, b⟩ := p
    simp only
    cases listR num (markR num sg kd) b with
    | none => rfl
    | some q => obtain ⟨y, c⟩ := q; simp only; cases listR num (spotR num) c <;> rfl

/-- A list on the way. -/
structure RelN {α : Type} (one : PR α) (n k : Nat) (s1 s' : Option Nat) (xs : List α) : Prop where
  len : xs.length = k
  le : k ≤ n
  go : ∀ b, s' = some b → ∃ a1, s1 = some a1 ∧ listN one k a1 = some (xs, b)
  fail : s' = none → ∀ a1, s1 = some a1 → listN one n a1 = none
theorem RelN.start {α : Type} (one : PR α) (n : Nat) (s1 : Option Nat) : RelN one n 0 s1 s1 [] := ⟨rfl, by omega, fun b h => ⟨b, h, rfl⟩, fun h a ha => by rw [h] at ha; cases ha⟩
theorem RelN.step {α : Type} {one : PR α} {n k : Nat} {s1 s' s2 : Option Nat} {xs : List α} {x : α} (h : RelN one n k s1 s' xs) (hs : s'.isNone = false) (hx : Rel one s' s2 x) (hk : k < n) : RelN one n (k + 1) s1 s2 (xs ++ [x]) := by
  obtain ⟨b, rfl⟩ : ∃ b, s' = some b := by cases s' with | none => simp at hs | some b => exact ⟨b, rfl⟩
  obtain ⟨a1, h1, h2⟩ := h.go b rfl
  refine ⟨by simp [h.len], by omega, fun c hc => ?_, fun hn a1' ha => ?_⟩
  · obtain ⟨a, h3, h4⟩ := hx.1 c hc
    cases h3
    exact ⟨a1, h1, listN_step h2 h4⟩
  · rw [h1] at ha
    cases ha
    exact listN_stop h2 (hx.2 hn b rfl) hk
theorem RelN.done {α : Type} {one : PR α} {n k : Nat} {s1 s' : Option Nat} {xs : List α} (h : RelN one n k s1 s' xs) (hd : k = n ∨ s' = none) : Rel (listN one n) s1 s' xs := by
  refine ⟨fun b hb => ?_, h.fail⟩
  rcases hd with rfl | hd
  · exact h.go b hb
  · rw [hd] at hb; cases hb
theorem RelN.few {α : Type} {l : List Int} {one : PR α} {W : α → List Int} {P : α → Prop} (hc : Cheap l one W P) {n k : Nat} {s1 s' : Option Nat} {xs : List α} (h : RelN one n k s1 s' xs) (h1 : ∀ a, s1 = some a → a ≤ l.length) (hs : s'.isNone = false) : k ≤ l.length := by
  obtain ⟨b, rfl⟩ : ∃ b, s' = some b := by cases s' with | none => simp at hs | some b => exact ⟨b, rfl⟩
  obtain ⟨a1, h2, h3⟩ := h.go b rfl
  have := listN_cheap hc _ _ _ _ (h1 a1 h2) h3
  omega
theorem RS.le {w : World} {rb base : Nat} {l : List Int} {s : Option Nat} (h : RS w rb base l s) : ∀ a, s = some a → a ≤ l.length := by
  obtain ⟨v, a1, bad, h1, rfl⟩ := h
  intro a ha
  cases bad with
  | true => simp at ha
  | false => simp at ha; subst ha; exact h1.le

/-! ### The calls -/
theorem rplain_rel (rb base : Nat) (l : List Int) (s : Option Nat) (w : World) (hB : isB l) (h : RS w rb base l s) :
   Calls Tryd.prog 30 #[.pointer (some ⟨rb, 0, none⟩)] w fun e w' => ∃ n s', e = .returned (.int .i64 n) ∧ Rel (plainP l) s s' n ∧ (0 ≤ n ∧ n ≤ 2147483647) ∧ RS w' rb base l s' ∧ OthR w w' rb :=
  (rplain_any rb base l s w hB h).mono fun _ _ ⟨h1, h2, h3⟩ => ⟨_, _, h1, rel_rdN _ _, rdN_plain_bd hB, h2, h3⟩
theorem rsigned_rel (rb base : Nat) (l : List Int) (s : Option Nat) (w : World) (hB : isB l) (h : RS w rb base l s) :
   Calls Tryd.prog 31 #[.pointer (some ⟨rb, 0, none⟩)] w fun e w' => ∃ n s', e = .returned (.int .i64 n) ∧ Rel (signR (numP l)) s s' n ∧ RS w' rb base l s' ∧ OthR w w' rb :=
  (rsigned_any rb base l s w hB h).mono fun _ _ ⟨h1, h2, h3⟩ => ⟨_, _, h1, rel_rdN _ _, h2, h3⟩

/-! ### Memory -/
theorem OthR.oth {w w' : World} {rb : Nat} (h : OthR w w' rb) (y : Nat) : Oth w w' rb y := ⟨h.os, h.tape, h.output, h.size, fun j hj h1 _ => h.block j hj h1 h1⟩
theorem Oth.swap {w w' : World} {x y : Nat} (h : Oth w w' x y) : Oth w w' y x := ⟨h.os, h.tape, h.output, h.size, fun j hj h1 h2 => h.block j hj h2 h1⟩
/-- Something new is written. -/
theorem Oth.setNew {w w1 : World} {x y : Nat} (h : Oth w w1 x y) {z : Nat} (hz : w.heap.size ≤ z) (i : Nat) (v : Value) : Oth w (w1.setCell ⟨z, i, none⟩ v) x y :=
  ⟨h.os, h.tape, h.output, by rw [World.size_setCell]; exact h.size, fun j hj h1 h2 => (Below.heap_setCell _ _ _ _ (show j ≠ z by omega)).trans (h.block j hj h1 h2)⟩
theorem Oth.alloc {w w1 : World} {x y : Nat} (h : Oth w w1 x y) (o : Obj) : Oth w (w1.alloc o) x y := h.later ((Below.refl _ _).alloc (Nat.le_refl _) _)
theorem Oth.below {w w' : World} {x y B : Nat} (h : Oth w w' x y) (hB : B ≤ w.heap.size) (hx : B ≤ x) (hy : B ≤ y) : Below B w w' := ⟨h.os, h.tape, h.output, h.size, fun j hj => h.block j (by omega) (by omega) (by omega)⟩
/-- From one world on to a later, where the second's own blocks are new. -/
theorem Oth.on {w w1 w2 : World} {x y z : Nat} (h : Oth w w1 x y) (k : Oth w1 w2 x z) (hz : w.heap.size ≤ z ∨ z = y ∨ z = x) : Oth w w2 x y :=
  ⟨k.os.trans h.os, k.tape.trans h.tape, k.output.trans h.output, Nat.le_trans h.size k.size, fun j hj h1 h2 => (k.block j (Nat.lt_of_lt_of_le hj h.size) h1 (by omega)).trans (h.block j hj h1 h2)⟩
theorem rowE_oth {α : Type} {T T2 : TypeId} {K : Nat} {E : Lies α} (hE : LiesOK T2 E) {w w' : World} {base x y : Nat} {v : Value} {xs : List α} (h : rowE T K E w base v xs) (o : Oth w w' x y) (hx : x < base ∨ w.heap.size ≤ x) (hy : y < base ∨ w.heap.size ≤ y) : rowE T K E w' base v xs :=
  rowE_same hE h fun k hk hlt => o.block k hlt (by omega) (by omega)
theorem RS.oth {w w' : World} {rb base : Nat} {l : List Int} {s : Option Nat} {x y : Nat} (h : RS w rb base l s) (o : Oth w w' x y) (hx : base ≤ x) (hy : base ≤ y) (hx2 : x ≠ rb) (hy2 : y ≠ rb) : RS w' rb base l s :=
  h.kept (by obtain ⟨v, a, bad, h1, _⟩ := h; exact o.block rb (heap_lt h1.at_) (Ne.symm hx2) (Ne.symm hy2)) fun k hk hlt => o.block k hlt (by omega) (by omega)
theorem RS.grown {w w1 w2 : World} {rb base : Nat} {l : List Int} {s : Option Nat} {row : Option Nat} (h : RS w rb base l s) (hb : Below w.heap.size w w1) (g : w1.grownBy w2 row) (hr : ∀ k, row = some k → base ≤ k ∧ k ≠ rb) : RS w2 rb base l s := by
  have hlt : rb < w.heap.size := by obtain ⟨v, a, bad, h1, _⟩ := h; exact heap_lt h1.at_
  refine h.kept ?_ fun k hk hl => ?_
  · exact (g.block rb (Nat.lt_of_lt_of_le hlt hb.size) (fun e => (hr rb e.symm).2 rfl)).trans (hb.block rb hlt)
  · exact (g.block k (Nat.lt_of_lt_of_le hl hb.size) (fun e => by have := (hr k e.symm).1; omega)).trans (hb.block k hl)
theorem rowE_nil {α : Type} (T : TypeId) (K : Nat) (E : Lies α) (w : World) (base : Nat) : rowE T K E w base (.slice none 0 0) [] := ⟨[], World.ownsRow_nil _ _ _ _, Els.nil⟩
/-- One more. -/
theorem rowE_push {α : Type} {TE : TypeId} {K : Nat} {E : Lies α} (hE : LiesOK TE E) {w X w2 : World} {B : Nat} {v v2 : Value} {xs : List α} {x : α} {zs cells : List Value} (hown : w.ownsRow B TE K v xs.length cells) (hels : Els E K w B cells xs) (hX : Below w.heap.size w X) (hg : X.grownBy w2 v.ownBlock) (h2 : w2.ownsRow B TE K v2 (xs.length + 1) (cells ++ zs)) (hx : E xs w B zs x) (hz : zs.length = K) :
    rowE TE K E w2 B v2 (xs ++ [x]) ∧ Stays TE B w w2 := by
  have hst : Stays TE B w w2 := fun k ob hk hb hn => by
    have h1 := heap_below hX (heap_lt hk) hk
    refine grown_at hg h1 fun e => ?_
    obtain ⟨_, cur, hc⟩ := own_blk hown k e
    rw [hk] at hc
    exact hn _ _ (Option.some.inj hc)
  exact ⟨⟨cells ++ zs, by rw [List.length_append]; exact h2, (hels.stays hE hst).snoc (hE.stays hx hst) hz⟩, hst⟩
theorem rowE_shape {α : Type} {T : TypeId} {K : Nat} {E : Lies α} {w : World} {base : Nat} {v : Value} {xs : List α} (h : rowE T K E w base v xs) : ∃ a c, v = .slice a xs.length c := by
  obtain ⟨cells, h1, _⟩ := h; exact (Rd.of_own h1).shape
theorem stopE_okT {T : TypeId} (h : 86 ≠ T) : LiesOK T stopE :=
  ⟨fun ⟨v, h1, h2⟩ hs => ⟨v, h1, rowE_stays (spotE_ok _) h h2 hs⟩, fun ⟨v, h1, h2⟩ hb => ⟨v, h1, rowE_mono (spotE_ok 0) h2 hb⟩⟩
theorem markE_okT {T : TypeId} (h : 91 ≠ T) : LiesOK T markE :=
  ⟨fun ⟨v, h1, h2⟩ hs => ⟨v, h1, rowE_stays (locE_ok _) h h2 hs⟩, fun ⟨v, h1, h2⟩ hb => ⟨v, h1, rowE_mono (locE_ok 0) h2 hb⟩⟩

/-- Debug information gets one more. -/
theorem obj_push {α : Type} {TE TD : TypeId} {K : Nat} {E : Lies α} (hE : LiesOK TE E) {W wb X w6 : World} {rb db base B : Nat} {l : List Int} {s : Option Nat} {i : Nat} {c : Array Value} {v v2 : Value} {xs : List α} {x : α} {zs cells : List Value}
    (S : RS wb rb base l s) (D : wb.heap[db]? = some (.cells c TD (0, 0))) (hown : wb.ownsRow B TE K v xs.length cells) (hels : Els E K wb B cells xs) (O : Oth W wb rb db) (hX : Below wb.heap.size wb X) (hg : X.grownBy w6 v.ownBlock)
    (h6 : w6.ownsRow B TE K v2 (xs.length + 1) (cells ++ zs)) (hx : E xs wb B zs x) (hz : zs.length = K) (hb1 : base ≤ rb) (hb2 : base ≤ db) (hrb : rb < B) (hrd : rb ≠ db) (hB : db < B) (hWB : W.heap.size ≤ B) :
    (∀ j u, c[j]? = some u → w6.cell? ⟨db, j, none⟩ = some u) ∧ (∀ j, w6.frozen? ⟨db, j, none⟩ = false) ∧ RS (w6.setCell ⟨db, i, none⟩ v2) rb base l s ∧ (w6.setCell ⟨db, i, none⟩ v2).heap[db]? = some (.cells (c.setIfInBounds i v2) TD (0, 0)) ∧ rowE TE K E (w6.setCell ⟨db, i, none⟩ v2) B v2 (xs ++ [x]) ∧ Oth W (w6.setCell ⟨db, i, none⟩ v2) rb db ∧ Stays TE B wb (w6.setCell ⟨db, i, none⟩ v2) := by
  have hr : ∀ k, v.ownBlock = some k → B ≤ k := fun k hk => (own_blk hown k hk).1
  have hp := rowE_push hE hown hels hX hg h6 hx hz
  have hd6 : w6.heap[db]? = some (.cells c TD (0, 0)) := grown_at hg (heap_below hX (heap_lt D) D) (fun e => by have := hr db e; omega)
  have hos : Oth w6 (w6.setCell ⟨db, i, none⟩ v2) db db := (Oth.refl w6 db db).set i v2
  refine ⟨fun j u hu => cell_of hd6 hu, fun j => unfrozen_of hd6, ?_, heap_set hd6, rowE_oth hE hp.1 hos (.inl hB) (.inl hB), ((O.later hX).grown hg (fun k hk => by have := hr k hk; omega)).set _ _, fun k ob hk hb hn => ?_⟩
  · exact (S.grown hX hg (fun k hk => by have := hr k hk; omega)).oth hos (by omega) (by omega) (Ne.symm hrd) (Ne.symm hrd)
  · exact (Below.heap_setCell _ _ _ _ (show k ≠ db by omega)).trans (hp.2 k ob hk hb hn)
theorem done_of {k m : Nat} {bb : Bool} {s : Option Nat} (hle : k ≤ m) (h : (decide (k < m) && !bb) = false) (hb : s.isNone = bb) : k = m ∨ s = none := by
  subst hb
  cases s with
  | none => exact .inr rfl
  | some b =>
    simp only [Option.isNone_some, Bool.not_false, Bool.and_true, decide_eq_false_iff_not] at h
    exact .inl (by omega)
theorem go_of {k m : Nat} {bb : Bool} (h : (decide (k < m) && !bb) = true) : k < m ∧ bb = false := by
  cases bb with
  | true => simp at h
  | false => simpa using h
/-! ### What is written is bytes -/
theorem isB_app {l m : List Int} (h : isB l) (k : isB m) : isB (l ++ m) := fun x hx => by
  rcases List.mem_append.1 hx with h1 | h1
  · exact h x h1
  · exact k x h1
theorem isB_flat {α : Type} {W : α → List Int} {xs : List α} (h : ∀ x ∈ xs, isB (W x)) : isB (xs.flatMap W) := fun y hy => by
  obtain ⟨x, h1, h2⟩ := List.mem_flatMap.1 hy
  exact h x h1 y h2
theorem numW_isB {n : Nat} (h : n < 18446744073709551616) : isB (numW n) := by
  unfold numW
  split
  · intro x hx
    simp only [List.mem_singleton] at hx
    subst hx
    omega
  · intro x hx
    have hl := beB_len 8 n (by omega)
    rcases List.mem_cons.1 hx with rfl | h1
    · omega
    · exact beB_isB n x h1
theorem numsW_isB {l : List Int} (h : ∀ x ∈ l, x < 18446744073709551616) : isB (numsW l) := isB_flat fun x hx => numW_isB (by have := h x hx; omega)
theorem numsW_isB1 {x : Int} (h : x < 18446744073709551616) : isB (numsW [x]) := numsW_isB (by simpa using h)
theorem numsW_isB2 {x y : Int} (h : x < 18446744073709551616) (k : y < 18446744073709551616) : isB (numsW [x, y]) := numsW_isB (by intro z hz; rcases List.mem_cons.1 hz with rfl | hz; exact h; simp only [List.mem_singleton] at hz; subst hz; exact k)
theorem numsW_isB3 {x y z : Int} (h : x < 18446744073709551616) (k : y < 18446744073709551616) (m : z < 18446744073709551616) : isB (numsW [x, y, z]) := numsW_isB (by intro u hu; rcases List.mem_cons.1 hu with rfl | hu; exact h; rcases List.mem_cons.1 hu with rfl | hu; exact k; simp only [List.mem_singleton] at hu; subst hu; exact m)
theorem encD_isB {d : DebD} (hf : formD d = true) (hsg : sgD d) (hlen : (encD d).length ≤ 140737488355300) : isB (encD d) := by
  have hr := formD_right hf
  have hl : (bodyW d).length ≤ 140737488355300 := by unfold encD at hlen; rw [List.length_append] at hlen; omega
  unfold bodyW at hl
  simp only [List.length_append] at hl
  unfold encD bodyW
  refine isB_app (by intro x hx; simp [magicL] at hx; omega) (isB_app (isB_app (isB_app (numsW_isB1 (by have := hr.lens.1; omega)) (isB_flat fun s hs => ?_)) (isB_app (numsW_isB1 (by have := hr.lens.2.1; omega)) (isB_flat fun m hm => ?_))) (isB_app (numsW_isB1 (by have := hr.lens.2.2; omega)) ?_))
  · have h1 := flat_mem (W := stopW) _ hs
    have h2 := flat_len (W := spotW) s (fun x _ => spotW_pos x)
    have h3 : (stopW s).length = (numsW [(s.length : Int)]).length + (s.flatMap spotW).length := by simp only [stopW, List.length_append]
    obtain ⟨j, hj, rfl⟩ := List.getElem_of_mem hs
    refine isB_app (numsW_isB1 (by omega)) (isB_flat fun x hx => ?_)
    have := hr.spots j hj x hx
    unfold isN at this
    exact numsW_isB2 (by omega) (by omega)
  · have h1 := flat_mem (W := markW) _ hm
    have h2 := flat_len (W := locW) m.locs (fun x _ => locW_pos x)
    have h3 : (markW m).length = (numsW [m.stop, (m.locs.length : Int)]).length + (m.locs.flatMap locW).length := by simp only [markW, List.length_append]
    have h4 := hsg m hm
    obtain ⟨j, hj, rfl⟩ := List.getElem_of_mem hm
    have h5 := hr.marks j hj
    unfold isN at h5
    refine isB_app (numsW_isB2 (by omega) (by omega)) (isB_flat fun x hx => ?_)
    have h6 := hr.locs j hj x hx
    have h7 := h4 x hx
    unfold isN at h6
    unfold locW
    refine isB_app (isB_app (numsW_isB3 (by omega) (by omega) (by omega)) ?_) (numW_isB (zig_lt h7.2))
    split
    · exact fun y hy => by cases hy
    · exact isB_app (numsW_isB1 (by omega)) (numW_isB (zig_lt h7.1))
  · have e : sitesW 0 d.sites = (diffs 0 d.sites).flatMap spotW := by
      conv => lhs; rw [← sitesOf_diffs d.sites 0]
      exact sitesW_of _ _
    rw [e]
    have hs : sitesB d.marks.length (-1) d.sites = true := by
      unfold formD at hf
      simp only [Bool.and_eq_true] at hf
      exact hf.1.2
    refine isB_flat fun x hx => ?_
    have := diffs_ok _ (by have := hr.lens.2.1; omega) _ 0 (-1) hs (by omega) (by omega) x hx
    unfold isN at this
    exact numsW_isB2 (by omega) (by omega)

/-! ### What the document's reader answers, of what it read -/
theorem refDec_bad {l : List Int} {s : Option Nat} {d : DebD} (hm : l.take 4 = magicL) (h : Rel (lenR l) (some 4) s d) (hs : s.isNone = true) : refDec l = none := by
  have e : s = none := by cases s with | none => rfl | some x => simp at hs
  unfold refDec
  rw [if_pos hm, h.2 e 4 rfl]
theorem refDec_of {l : List Int} {s : Option Nat} {d : DebD} (hm : l.take 4 = magicL) (h : Rel (lenR l) (some 4) s d) (hs : s.isNone = false) : (∃ b, lenR l 4 = some (d, b)) ∧ refDec l = if formD d = true ∧ encD d = l then some d else none := by
  obtain ⟨b, rfl⟩ : ∃ b, s = some b := by cases s with | none => simp at hs | some b => exact ⟨b, rfl⟩
  obtain ⟨a, h1, h2⟩ := h.1 b rfl
  cases h1
  refine ⟨⟨b, h2⟩, ?_⟩
  unfold refDec
  rw [if_pos hm, h2]
end Go.Proofs.YtnanlkoldloolaaDoor
