/- The walk of MovesBack. -/
import Derived.Test.YtmdmfciicoldoaaMw
import Derived.Test.YtmdmfciicoldoaaMv
import Derived.Deep.OwnRows
import Derived.BigQuiet
namespace Go.Proofs.Ytmdmfciicoldoaa
open Go.RowKit Go.Maps

theorem wp_appR {w : World} {ops : Array Oper} {rest : List Oper} {o : Oper} {a : Act} {Q : Exit → Act → World → Prop} (hg : o.guard = none) (s xo : Operand)
    (hop : o.op = .call { callee := .builtin .append, args := #[s, xo], argTypes := #[22, 22] }) (base : Nat) (vo : Value) (out : List M) (hs : a.eval s = vo) (h : ownM w base 31 vo out) (x y : Int) (B : Nat) (hx : a.eval xo = .slice (some ⟨B, 0, none⟩) 1 1)
    (hB : w.heap[B]? = some (.cells #[.int .i64 x, .int .i64 y] 31 (0, 0))) (hlen : out.length + 1 ≤ 1000000) (hbase : base ≤ w.heap.size)
    (hK : ∀ g cap w', ownM w' base 31 (.slice (some ⟨g, 0, none⟩) (out.length + 1) cap) (out ++ [(x, y)]) → w.grownBy w' vo.ownBlock → (vo.ownBlock = some g ∨ g = w.heap.size) → wpList Try.prog ops Q rest (a.put o.dst (.slice (some ⟨g, 0, none⟩) (out.length + 1) cap)) w') : wpList Try.prog ops Q (o :: rest) a w := by
  obtain ⟨im, mi0, mz0, mz1, mz2⟩ := info_parts infoR
  refine wpList_append_lies w hg s xo 22 hop base 31 im (.agg #[.int .i64 0, .int .i64 0]) 2 16 Try.underlying22 mi0 mz0 mz1 mz2 rfl (by decide) vo out.length (cellsM out) hs h ⟨B, 0, none⟩ 1 1 (cellsM [(x, y)]) hx rfl
    (World.news_of_block (cs := #[.int .i64 x, .int .i64 y]) hB) (cellsM_one _) (by omega) (by unfold maxLen; omega) (by omega) hbase w.heap.size rfl ?_
  intro g cap w' h1 h2 h3 _
  exact hK g cap w' (ownM_grow h1 rfl) h2 h3

/-- A row of numbers, and two lists of moves beside it. -/
structure TB (w : World) (base A n : Nat) (F : Nat → Value) (v1 : Value) (L1 : List M) (v2 : Value) (L2 : List M) : Prop where
  row : w.rowIs A 3 n F
  o1 : ownM w base 31 v1 L1
  o2 : ownM w base 31 v2 L2
  ne : ∀ k, v1.ownBlock = some k → v2.ownBlock ≠ some k
section
variable {w w' : World} {base A n : Nat} {F : Nat → Value} {v1 v2 : Value} {L1 L2 : List M}
theorem TB.symm (h : TB w base A n F v1 L1 v2 L2) : TB w base A n F v2 L2 v1 L1 := ⟨h.row, h.o2, h.o1, fun k e1 e2 => h.ne k e2 e1⟩
theorem TB.alloc (h : TB w base A n F v1 L1 v2 L2) (o : Obj) : TB (w.alloc o) base A n F v1 L1 v2 L2 := ⟨h.row.alloc o, h.o1.alloc o, h.o2.alloc o, h.ne⟩
theorem TB.rowNe (h : TB w base A n F v1 L1 v2 L2) : v1.ownBlock ≠ some A := fun e => by
  obtain ⟨_, cur, hc⟩ := own_blk h.o1 A e
  obtain ⟨c, hb, _⟩ := h.row
  rw [hb] at hc
  cases hc
theorem TB.add (h : TB w base A n F v1 L1 v2 L2) {g c : Nat} {L1' : List M} (hg : w.grownBy w' v1.ownBlock) (hat : v1.ownBlock = some g ∨ g = w.heap.size) (hown : ownM w' base 31 (.slice (some ⟨g, 0, none⟩) (L1.length + 1) c) L1') : TB w' base A n F (.slice (some ⟨g, 0, none⟩) (L1.length + 1) c) L1' v2 L2 := by
  have hlt : ∀ k, v2.ownBlock = some k → k < w.heap.size := fun k e => by
    obtain ⟨_, cur, hc⟩ := own_blk h.o2 k e; exact (Array.getElem?_eq_some_iff.1 hc).1
  refine ⟨h.row.of_block (hg.block A h.row.lt (fun e => h.rowNe e.symm)), hown, own_same h.o2 (fun k e => hg.block k (hlt k e) (fun e2 => h.ne k e2.symm e)), fun k e hk => ?_⟩
  simp [Value.ownBlock] at e
  subst e
  rcases hat with e2 | e2
  · exact h.ne g e2 hk
  · have := hlt g hk; omega
end

/-- Places as the row of 'has' numbers them. -/
def encP (n : Nat) (x : Int) : Int := if x = -1 then (n : Int) else x
def decP (n : Nat) (k : Nat) : Int := if k = n then -1 else (k : Int)
def hasF (n : Nat) (out : List M) (k : Nat) : Value := .int .i64 (encP n (runM out (decP n k)))
theorem hasF_start (n k : Nat) : Value.int .i64 (k : Int) = hasF n [] k := by
  unfold hasF encP decP runM
  by_cases h : k = n
  · subst h; simp
  · rw [if_neg h]
    show _ = Value.int .i64 (if (k : Int) = -1 then (n : Int) else (k : Int))
    rw [if_neg (by omega)]
theorem decP_inj {n k q : Nat} (h : decP n k = decP n q) (hk : k ≤ n) (hq : q ≤ n) : k = q := by
  unfold decP at h
  by_cases h1 : k = n <;> by_cases h2 : q = n <;> simp only [h1, h2, if_true, if_false] at h <;> omega
theorem hasF_next {n : Nat} {L : List M} {t : Nat} (ht : t < L.length) {p q : Nat} (hp : p ≤ n) (h1 : decP n p = L[t].1) (h2 : decP n q = L[t].2) {k : Nat} (hk : k ≤ n) :
    (if k = p then hasF n (L.take t) q else hasF n (L.take t) k) = hasF n (L.take (t + 1)) k := by
  unfold hasF
  rw [runM_next ht, ← h1, ← h2]
  by_cases e : k = p
  · subst e; rw [if_pos rfl, upd_same]
  · rw [if_neg e, upd_other]
    intro e2
    exact e (decP_inj e2 hk hp)

theorem own_empty (w : World) (e : TypeId) : (w.alloc (.cells #[] e)).ownsRow w.heap.size e 2 (.slice (some ⟨w.heap.size, 0, none⟩) 0 0) 0 (cellsM []) :=
  ⟨rfl, .inr ⟨w.heap.size, 0, #[], rfl, Nat.le_refl _, heap_alloc_new _ _, Nat.le_refl _, Nat.zero_le _, rfl, rfl⟩⟩
theorem rdM_ext {w : World} {v : Value} {l : List M} (h : RdM w v l) (o : Obj) : RdM (w.alloc o) v l := h.later ((Below.refl _ _).alloc (Nat.le_refl _) o)

theorem row_round {w : World} {B n : Nat} {F G : Nat → Value} {o : Obj} {d p : Nat} {v : Value} (h : w.rowIs B 3 n F) (hG : ∀ k, k < n → (if k = p then v else F k) = G k) : (((w.alloc o).drewN d).setCell ⟨B, p, none⟩ v).rowIs B 3 n G :=
  (World.rowIs.set (w := (w.alloc o).drewN d) ((h.alloc o).of_block rfl) p v).congr hG
theorem own_round {w : World} {B n base : Nat} {F : Nat → Value} {o : Obj} {d p : Nat} {v u : Value} {L : List M} (hr : w.rowIs B 3 n F) (h : ownM w base 32 v L) : ownM (((w.alloc o).drewN d).setCell ⟨B, p, none⟩ u) base 32 v L := own_same h fun k hk => by
  obtain ⟨_, cur, hc⟩ := own_blk h k hk
  obtain ⟨c, hb, _⟩ := hr
  rw [Below.heap_setCell _ _ _ _ (blk_ne hc hb (cells_ne (by decide)))]
  exact heap_alloc_old _ _ (Array.getElem?_eq_some_iff.1 hc).1

set_option maxHeartbeats 8000000 in
set_option maxRecDepth 100000 in
theorem movesBack_walk (v : Value) (l : List Int) (sp : Bool) (w : World) (hv : RdB w v l) (hB : isB l) :
    Calls Try.prog 6 #[v, .bool sp] w fun e w' => e = .returned (.bool true) ∧ Below w.heap.size w w' := by
  obtain ⟨va, vc, rfl⟩ := Rd.shape hv
  obtain ⟨n, hn, hn40, hnm⟩ : ∃ n : Nat, n ≤ l.length ∧ n ≤ 40 ∧ (if (40 : Int) < (l.length : Int) then (40 : Int) else (l.length : Int)) = (n : Int) := ⟨min l.length 40, by omega, by omega, by split <;> omega⟩
  have hmk : ∀ W, (Instr.makeSlice 41 (.int .i64 (n : Int)) (.int .i64 (n : Int))).run Try.prog W = .ok (.slice (some ⟨W.heap.size, 0, none⟩) n n) (W.alloc (.cells (madeCells #[.int .i64 0] n) 3)) := fun W =>
    Go.run_make_row' (P := Try.prog) 41 3 (.int .i64 0) 8 Try.underlying41 infoI rfl .i64 .i64 n (by omega) (by omega) W
  have hmk2 : ∀ W, (Instr.makeSlice 41 (.int .i64 ((n : Int) + 1)) (.int .i64 ((n : Int) + 1))).run Try.prog W = .ok (.slice (some ⟨W.heap.size, 0, none⟩) (n + 1) (n + 1)) (W.alloc (.cells (madeCells #[.int .i64 0] (n + 1)) 3)) := fun W => by
    have h := Go.run_make_row' (P := Try.prog) 41 3 (.int .i64 0) 8 Try.underlying41 infoI rfl .i64 .i64 (n + 1) (by omega) (by omega) W
    push_cast at h
    exact h
  have HV := Lib.hid hv
  have HBy := Lib.hid hB
  clear hv hB
  go_enter Try.func6, Try.ntmps6
  go_wp2_with fail
  refine (awake_any _).mono ?_
  rintro e w1 ⟨rfl, hb1⟩
  have HB1 := Lib.hid hb1
  have HV1 : Hid (RdB w1 _ l) := HV.out.later hb1
  clear hb1 HV
  go_wp2_with fail
  go_loopw [34] (fun i wr => ∃ j : Nat, j ≤ n ∧ i = .int .i64 j ∧ Hid (wr.rowIs w1.heap.size 3 n (fun k => .int .i64 (if k < j then (k : Int) else 0))) ∧ Hid (Below w1.heap.size w1 wr)) (fun i _ => n - (intOf i).toNat)
  case atStart => exact ⟨0, by omega, rfl, (World.rowIs_made w1 (.int .i64 0) n 3).congr (fun i _ => by simp), (Below.refl _ _).alloc (Nat.le_refl _) _⟩
  case round =>
    obtain ⟨wa, rfl⟩ : ∃ wa : World, wa = wr := ⟨_, rfl⟩
    obtain ⟨j, hj, rfl, HR, HB⟩ := hrel
    by_cases hlt : j < n
    · have c1 := HR.out.cell hlt
      have c2 := HR.out.frozen j
      go_wp2_with fail
      exact ⟨⟨j + 1, by omega, by go_num, (HR.out.set j _).congr (fun i _ => by
        by_cases e : i = j
        · subst e; simp
        · by_cases e2 : i < j
          · simp only [if_neg e, if_pos e2, if_pos (show i < j + 1 by omega)]
          · simp only [if_neg e, if_neg e2, if_neg (show ¬ i < j + 1 by omega)]), HB.out.setCell (Nat.le_refl _) _⟩, by simp [intOf]; omega⟩
    · obtain rfl : j = n := by omega
      have HR0 : Hid (wa.rowIs w1.heap.size 3 j (fun k => .int .i64 (((fun i => i) k : Nat) : Int))) := HR.out.congr (fun i hi => by simp [hi])
      have HB0 := HB
      clear HR HB
      go_wp2_with fail
      go_loopw [43] (fun i wr => ∃ (t : Nat) (f : Nat → Nat), t ≤ j ∧ i = .int .i64 t ∧ Hid (Turn j f) ∧ Hid (wr.rowIs w1.heap.size 3 j (fun k => .int .i64 (f k : Int))) ∧ Hid (Below w1.heap.size w1 wr)) (fun i _ => j - (intOf i).toNat)
      case atStart => exact ⟨0, _, by omega, rfl, Turn.id j, HR0, HB0⟩
      case round =>
        obtain ⟨wb, rfl⟩ : ∃ wb : World, wb = wr := ⟨_, rfl⟩
        obtain ⟨t, f, ht, rfl, HT, HR, HB⟩ := hrel
        clear HR0 HB0
        by_cases hlt : t < j
        · rcases HV1.out.split with ⟨a, c, h0, rfl⟩ | ⟨b, off, c, h0, hp, hlc, hc9, hb, hcell⟩
          · simp at hn; omega
          · simp only [Value.slice.injEq] at h0
            obtain ⟨rfl, -, rfl⟩ := h0
            have d1 := hcell t (by omega)
            rw [← HB.out.cell (p := ⟨b, off + t, none⟩) hb] at d1
            have hbr : b < wb.heap.size := Nat.lt_of_lt_of_le hb HB.out.size
            obtain ⟨x, hx⟩ : ∃ x, l.getD t 0 = x := ⟨_, rfl⟩
            have hxb : 0 ≤ x ∧ x ≤ 255 := by
              rw [← hx]
              have : l.getD t 0 = l[t]'(by omega) := by simp [show t < l.length by omega]
              rw [this]
              exact HBy.out _ (List.getElem_mem _)
            obtain ⟨q, hq, hqm⟩ : ∃ q : Nat, q < j ∧ x % (j : Int) = (q : Int) := by
              have h1 := Int.emod_nonneg x (show (j : Int) ≠ 0 by omega)
              have h2 := Int.emod_lt_of_pos x (show (0 : Int) < (j : Int) by omega)
              exact ⟨(x % (j : Int)).toNat, by omega, by omega⟩
            rw [hx] at d1
            have hj0 : ((j : Int) == 0) = false := by simp; omega
            have c1 := HR.out.cell (show t < j from hlt)
            have c2 := HR.out.frozen t
            have c3 := HR.out.cell hq
            have c4 := HR.out.frozen q
            obtain ⟨ft, hft⟩ : ∃ ft, f t = ft := ⟨_, rfl⟩
            obtain ⟨fq, hfq⟩ : ∃ fq, f q = fq := ⟨_, rfl⟩
            simp only [hft] at c1
            simp only [hfq] at c3
            have HF1 := Lib.hid hft
            have HF2 := Lib.hid hfq
            have htl : t < l.length := by omega
            have c5 := fun v => ((HR.out.set t v).cell hq)
            have c6 := fun v => ((HR.out.set t v).frozen q)
            have c7 := fun v => (((show wb.drew.rowIs _ _ _ _ from HR.out).set t v).cell hq)
            have c8 := fun v => (((show wb.drew.rowIs _ _ _ _ from HR.out).set t v).frozen q)
            clear hx hcell hft hfq hnm
            go_wp2_with fail
            go_region
            clear c5 c6 c7 c8
            go_wp2_with fail
            exact ⟨⟨t + 1, swp f t q, by omega, by go_num, HT.out.swp hlt hq, ((HR.out.set t _).set q _).congr (fun i _ => by
              unfold swp
              by_cases e : i = q
              · rw [if_pos e, if_pos e, HF1.out]
              · rw [if_neg e, if_neg e]
                by_cases e2 : i = t
                · rw [if_pos e2, if_pos e2, HF2.out]
                · rw [if_neg e2, if_neg e2]), ((HB.out.setCell (Nat.le_refl _) _).setCell (Nat.le_refl _) _).drew⟩, by simp [intOf]; omega⟩
        · obtain rfl : t = j := by omega
          have HBy2 := HB
          clear HBy hnm
          go_wp2_with fail
          go_loopw [70, 10, 11] (fun i s1 s2 wr => ∃ (j : Nat) (L1 L2 : List M), j ≤ t ∧ i = .int .i64 j ∧ Hid (L1 = thereL j f) ∧ Hid (L2 = backL j f) ∧ Hid (TB wr w1.heap.size w1.heap.size t (fun k => .int .i64 (f k : Int)) s1 L1 s2 L2) ∧ Hid (Below w1.heap.size w1 wr)) (fun i _ _ _ => t - (intOf i).toNat)
          case atStart => exact ⟨0, [], [], by omega, rfl, rfl, rfl, ⟨HR.out, ownM_nil _ _ _, ownM_nil _ _ _, fun k e => by cases e⟩, HB⟩
          case round =>
            obtain ⟨wc, rfl⟩ : ∃ wc : World, wc = wr := ⟨_, rfl⟩
            clear HB HR HBy2
            obtain ⟨j, L1, L2, hj, rfl, HL1, HL2, HQ, HB⟩ := hrel
            have hl1 : L1.length = j := by rw [HL1.out, thereL_len]
            have hl2 : L2.length = j := by rw [HL2.out, backL_len]
            have hsz := HB.out.size
            by_cases hlt : j < t
            · have c1 := HQ.out.row.cell hlt
              obtain ⟨ft, hft⟩ : ∃ ft, f j = ft := ⟨_, rfl⟩
              simp only [hft] at c1
              have HF1 := Lib.hid hft
              have HN1 := Lib.hid hl1
              have HN2 := Lib.hid hl2
              have HO1 : Hid (L1.length + 1 ≤ 1000000) := by show _ ≤ _; omega
              have HO2 : Hid (L2.length + 1 ≤ 1000000) := by show _ ≤ _; omega
              have hAl := HQ.out.row.lt
              clear hft hl1 hl2
              go_wp2_with (first
                | (at_builtin; refine wp_appR rfl _ _ rfl w1.heap.size _ _ rfl (HQ.out.alloc _).o1 (ft : Int) (j : Int) wc.heap.size rfl (heap_alloc_new _ _) HO1.out (by simp; omega) ?_; intro g6 q6 w6 hown6 hgrow6 hat6; have HT6 := Lib.hid ((HQ.out.alloc _).add hgrow6 hat6 hown6); have hz6 := hgrow6.size; clear hat6)
                | (at_builtin; refine wp_appR rfl _ _ rfl w1.heap.size _ _ rfl (HT6.out.alloc _).o2 (j : Int) (ft : Int) w6.heap.size rfl (heap_alloc_new _ _) HO2.out (by simp at hz6 ⊢; omega) ?_; intro g7 q7 w7 hown7 hgrow7 hat7; have HT7 := Lib.hid ((HT6.out.alloc _).symm.add hgrow7 hat7 hown7).symm; clear hat7))
              have HB6 : Hid (Below w1.heap.size w1 w6) := (HB.out.alloc hsz _).grown hgrow6 (by simp; omega) (fun k hk => (own_blk HQ.out.o1 k hk).1)
              have HB7 : Hid (Below w1.heap.size w1 w7) := (HB6.out.alloc HB6.out.size _).grown hgrow7 (by have := HB6.out.size; simp; omega) (fun k hk => (own_blk HT6.out.o2 k hk).1)
              exact ⟨⟨j + 1, _, _, by omega, by go_num, by show _ = _; rw [HL1.out, ← HF1.out]; exact thereL_next j f, by show _ = _; rw [HL2.out, ← HF1.out]; exact backL_next j f, HT7.out, HB7.out⟩, by simp [intOf]; omega⟩
            · obtain rfl : j = t := by omega
              have HBa := Lib.hid (HB1.out.trans (HB.out.mono HB1.out.size))
              have HVc : Hid (RdM wc _ L1) := HQ.out.o1.rd
              have HW1 : Hid (RdM wc _ L2) := HQ.out.o2.rd
              obtain ⟨a1, q1, rfl⟩ := ownM_shape HQ.out.o1
              obtain ⟨a2, q2, rfl⟩ := ownM_shape HQ.out.o2
              have HTa : Hid (∀ m ∈ L1, (0 ≤ m.1 ∧ m.1 < (j : Int)) ∧ (0 ≤ m.2 ∧ m.2 < (j : Int))) := by rw [HL1.out]; exact there_all HT.out
              have HTb : Hid (∀ m ∈ L2, (0 ≤ m.1 ∧ m.1 < (j : Int)) ∧ (0 ≤ m.2 ∧ m.2 < (j : Int))) := by rw [HL2.out]; exact back_all HT.out
              have HD1 : Hid (Dist L1) := by rw [HL1.out]; exact dist_there HT.out
              have HD2 : Hid (Dist L2) := by rw [HL2.out]; exact dist_back _ _
              have HC12 : Hid (circN L1 = circN L2) := by rw [HL1.out, HL2.out]; exact circ_turn HT.out
              have HTB : Hid (∀ i, i < j → runM (orderF L1 (-1) ++ orderF L2 (-1)) (i : Int) = (i : Int)) := fun i hi => by rw [HL1.out, HL2.out]; exact there_back HT.out hi
              have HA1 := Lib.hid (order_all HTa.out)
              have HA2 := Lib.hid (order_all HTb.out)
              have HO1 := Lib.hid (order_len HD1.out (all_sp HTa.out))
              have HO2 := Lib.hid (order_len HD2.out (all_sp HTb.out))
              have HR1 := Lib.hid (all_inR (show j ≤ 1000 by omega) HTa.out)
              have HR2 := Lib.hid (all_inR (show j ≤ 1000 by omega) HTb.out)
              have HN1 := Lib.hid hl1
              have HN2 := Lib.hid hl2
              have HN40 := Lib.hid hn40
              have HS1 : Hid (Dist L1 ∧ SpOK L1 (-1)) := ⟨HD1.out, all_sp HTa.out⟩
              have HS2 : Hid (Dist L2 ∧ SpOK L2 (-1)) := ⟨HD2.out, all_sp HTb.out⟩
              clear HL1 HL2 HQ HT hl1 hl2 HB HTa HTb hsz
              go_wp2_with fail
              refine (list_any _ L1 _ HVc.out (by have := HN1.out; have := HN40.out; omega)).mono ?_
              rintro e w2 ⟨u2, rfl, hs2, hb2⟩
              have HB2 := Lib.hid (HBa.out.trans (hb2.mono HBa.out.size))
              have HV2 : Hid (RdM w2 _ L1) := HVc.out.later hb2
              have HW2 : Hid (RdM w2 _ L2) := HW1.out.later hb2
              have HS := Lib.hid hs2
              clear hb2 hs2 HBa HVc HW1 HV1
              go_wp2_with fail
              refine (order_any _ L1 (-1) _ HS.out.rd HR1.out (by have := HN1.out; have := HN40.out; omega)).mono ?_
              rintro e w3 ⟨hcase, hb3⟩
              obtain ⟨ov1, rfl, HO3⟩ : ∃ (ov : Value), e = .returned (.tuple #[ov, .int .i64 0]) ∧ Hid (RdM w3 ov (orderF L1 (-1))) := by
                rcases hcase with ⟨h1, rfl⟩ | ⟨h1, v', rfl, h2⟩
                · exact absurd HS1.out h1
                · exact ⟨_, rfl, h2⟩
              have HB3 := Lib.hid (HB2.out.trans (hb3.mono HB2.out.size))
              have HV3 : Hid (RdM w3 _ L1) := HV2.out.later hb3
              have HW3 : Hid (RdM w3 _ L2) := HW2.out.later hb3
              clear hb3 hcase HB2 HV2 HW2 HS
              go_wp2_with fail
              refine (list_any _ L2 _ HW3.out (by have := HN2.out; have := HN40.out; omega)).mono ?_
              rintro e w4 ⟨u4, rfl, hs4, hb4⟩
              have HB4 := Lib.hid (HB3.out.trans (hb4.mono HB3.out.size))
              have HV4 : Hid (RdM w4 _ L1) := HV3.out.later hb4
              have HW4 : Hid (RdM w4 _ L2) := HW3.out.later hb4
              have HO4 : Hid (RdM w4 _ (orderF L1 (-1))) := HO3.out.later hb4
              have HS := Lib.hid hs4
              clear hb4 hs4 HB3 HV3 HW3 HO3
              go_wp2_with fail
              refine (order_any _ L2 (-1) _ HS.out.rd HR2.out (by have := HN2.out; have := HN40.out; omega)).mono ?_
              rintro e w5 ⟨hcase, hb5⟩
              obtain ⟨ov2, rfl, HP5⟩ : ∃ (ov : Value), e = .returned (.tuple #[ov, .int .i64 0]) ∧ Hid (RdM w5 ov (orderF L2 (-1))) := by
                rcases hcase with ⟨h1, rfl⟩ | ⟨h1, v', rfl, h2⟩
                · exact absurd HS2.out h1
                · exact ⟨_, rfl, h2⟩
              have HB5 := Lib.hid (HB4.out.trans (hb5.mono HB4.out.size))
              have HV5 : Hid (RdM w5 _ L1) := HV4.out.later hb5
              have HW5 : Hid (RdM w5 _ L2) := HW4.out.later hb5
              have HO5 : Hid (RdM w5 _ (orderF L1 (-1))) := HO4.out.later hb5
              clear hb5 hcase HB4 HV4 HW4 HO4 HS
              go_wp2_with fail
              go_loopw [111] (fun i wr => ∃ t : Nat, t ≤ j + 1 ∧ i = .int .i64 t ∧ Hid (wr.rowIs w5.heap.size 3 (j + 1) (fun k => .int .i64 (if k < t then (k : Int) else 0))) ∧ Hid (Below w5.heap.size w5 wr)) (fun i _ => j + 1 - (intOf i).toNat)
              case atStart => exact ⟨0, by omega, rfl, (World.rowIs_made w5 (.int .i64 0) (j + 1) 3).congr (fun i _ => by simp), (Below.refl _ _).alloc (Nat.le_refl _) _⟩
              case round =>
                obtain ⟨wd, rfl⟩ : ∃ wd : World, wd = wr := ⟨_, rfl⟩
                obtain ⟨t, ht, rfl, HR, HB⟩ := hrel
                by_cases hlt : t < j + 1
                · have c1 := HR.out.cell hlt
                  have c2 := HR.out.frozen t
                  have hlt2 : (t : Int) < (j : Int) + 1 := by omega
                  go_wp2_with fail
                  exact ⟨⟨t + 1, by omega, by go_num, (HR.out.set t _).congr (fun i _ => by
                    by_cases e : i = t
                    · subst e; simp
                    · by_cases e2 : i < t
                      · simp only [if_neg e, if_pos e2, if_pos (show i < t + 1 by omega)]
                      · simp only [if_neg e, if_neg e2, if_neg (show ¬ i < t + 1 by omega)]), HB.out.setCell (Nat.le_refl _) _⟩, by simp [intOf]; omega⟩
                · obtain rfl : t = j + 1 := by omega
                  have HR0 : Hid (wd.rowIs w5.heap.size 3 (j + 1) (hasF j [])) := HR.out.congr (fun i hi => by simp only [if_pos hi]; exact hasF_start j i)
                  have HOd : Hid (RdM wd _ (orderF L1 (-1))) := HO5.out.later HB.out
                  have HPd : Hid (RdM wd _ (orderF L2 (-1))) := HP5.out.later HB.out
                  have HAll : Hid (∀ m ∈ orderF L1 (-1) ++ orderF L2 (-1), InN j m.1 ∧ InN j m.2) := fun m hm => by
                    rcases List.mem_append.1 hm with hm | hm
                    · exact HA1.out m hm
                    · exact HA2.out m hm
                  have HO3 : Hid ((orderF L1 (-1)).length ≤ 80 ∧ (orderF L2 (-1)).length ≤ 80) := by
                    have h1 := HO1.out; have h2 := HO2.out; have h3 := HN1.out; have h4 := HN2.out; have h5 := HN40.out
                    exact ⟨by omega, by omega⟩
                  have hszd := HB.out.size
                  have HB0 := HB
                  clear HR HB HA1 HA2 HO1 HO2 HO5 HP5
                  generalize orderF L1 (-1) = A1 at *
                  generalize orderF L2 (-1) = A2 at *
                  have HL1 : Hid (0 + A1.length ≤ maxLen ∧ (0 + A1.length) * 16 ≤ 140737488355328 ∧ A1.length + A2.length ≤ maxLen ∧ (A1.length + A2.length) * 16 ≤ 140737488355328) := by
                    have := HO3.out
                    refine ⟨?_, ?_, ?_, ?_⟩ <;> (try unfold maxLen) <;> omega
                  obtain ⟨jm, ji0, jz0, jz1, jz2⟩ := info_parts infoM
                  obtain ⟨AL, hAL⟩ : ∃ AL, A1 ++ A2 = AL := ⟨_, rfl⟩
                  have HALe := Lib.hid hAL
                  rw [hAL] at HAll HTB
                  have HAL : Hid (AL.length ≤ 160) := by have := HO3.out; show _ ≤ _; rw [← hAL, List.length_append]; omega
                  clear hAL HO3
                  go_wp2_with (first
                    | (at_builtin; refine wpList_append_own_rd _ rfl _ _ 24 rfl wd.heap.size 32 jm (.agg #[.int .i64 0, .int .i64 0]) 2 16 Try.underlying24 ji0 jz0 jz1 jz2 rfl (by decide) _ _ _ rfl (own_empty wd _) ov1 A1.length (cellsM A1) rfl (rdM_ext HOd.out _) (cellsM_one _) HL1.out.1 HL1.out.2.1 (by simp) ?_; intro v6 w6 hown6 hgrow6; have HB6 : Hid (Below wd.heap.size wd w6) := ((Below.refl _ _).alloc (Nat.le_refl _) _).grown hgrow6 (by simp) (fun k hk => by cases hk; exact Nat.le_refl _); have hg6 : ownM w6 wd.heap.size 32 v6 A1 := ownM_grow (l := []) hown6 (by simp))
                    | (at_builtin; refine wpList_append_own_rd _ rfl _ _ 24 rfl wd.heap.size 32 jm (.agg #[.int .i64 0, .int .i64 0]) 2 16 Try.underlying24 ji0 jz0 jz1 jz2 rfl (by decide) _ _ _ rfl hg6 ov2 A2.length (cellsM A2) rfl (Rd.later HPd.out HB6.out) (cellsM_one _) HL1.out.2.2.1 HL1.out.2.2.2 HB6.out.size ?_; intro v7 w7 hown7 hgrow7; have HB7 : Hid (Below wd.heap.size wd w7) := HB6.out.grown hgrow7 HB6.out.size (fun k hk => (own_blk hg6 k hk).1); have hg7 : ownM w7 wd.heap.size 32 v7 AL := (by rw [← HALe.out]; exact ownM_grow hown7 rfl); obtain ⟨a7, q7, rfl⟩ := ownM_shape hg7; have HG7 := Lib.hid hg7; clear hown7 hgrow7 hg7 hgrow6 hown6))
                  have hrlt := HR0.out.lt
                  have HR7 : Hid (w7.rowIs w5.heap.size 3 (j + 1) (hasF j [])) := HR0.out.of_block (HB7.out.block _ hrlt)
                  have HB57 := Lib.hid (HB0.out.trans (HB7.out.mono hszd))
                  clear HL1 HR0 HB0 HOd HPd HB6 hg6 HB7 HALe
                  clear ji0 jz0 jz1 jz2 jm
                  go_loopw [125] (fun i wr => ∃ t : Nat, t ≤ AL.length ∧ i = .int .i64 t ∧ Hid (wr.rowIs w5.heap.size 3 (j + 1) (hasF j (AL.take t))) ∧ Hid (ownM wr wd.heap.size 32 (.slice a7 AL.length q7) AL) ∧ Hid (Below w5.heap.size w5 wr)) (fun i _ => AL.length - (intOf i).toNat)
                  case atStart => exact ⟨0, by omega, rfl, HR7, HG7, HB57⟩
                  case round =>
                    obtain ⟨we, rfl⟩ : ∃ we : World, we = wr := ⟨_, rfl⟩
                    obtain ⟨t, ht, rfl, HR, HG, HB⟩ := hrel
                    clear HR7 HG7 HB57
                    by_cases hlt : t < AL.length
                    · rcases HG.out.rd.split with ⟨a, c, h0, h1⟩ | ⟨b, off, c, h0, hp, hlc, hc9, hb, hcell⟩
                      · subst h1; simp at hlt
                      · simp only [Value.slice.injEq] at h0
                        obtain ⟨rfl, -, rfl⟩ := h0
                        obtain ⟨d1, d2⟩ := hcell t hlt
                        obtain ⟨i1, i2⟩ := HAll.out _ (List.getElem_mem hlt)
                        have HNx := fun (p q : Nat) (hp : p ≤ j) (h1 : decP j p = AL[t].1) (h2 : decP j q = AL[t].2) (k : Nat) (hk : k ≤ j) => hasF_next hlt hp h1 h2 hk
                        obtain ⟨⟨x, y⟩, hx⟩ : ∃ x, AL[t] = x := ⟨_, rfl⟩
                        rw [hx] at d1 d2 i1 i2 HNx
                        simp only at d1 d2 i1 i2 HNx
                        have HNX := Lib.hid HNx
                        have hrl := HR.out.lt
                        clear hx hcell HNx
                        have hx : ∃ p : Nat, p ≤ j ∧ decP j p = x ∧ ((j = p ∧ x = -1) ∨ (p < j ∧ x = (p : Int))) := by
                          rcases i1 with rfl | ⟨h1, h2⟩
                          · exact ⟨j, Nat.le_refl _, by unfold decP; rw [if_pos rfl], .inl ⟨rfl, rfl⟩⟩
                          · exact ⟨x.toNat, by omega, by unfold decP; rw [if_neg (by omega)]; omega, .inr ⟨by omega, by omega⟩⟩
                        have hy : ∃ q : Nat, q ≤ j ∧ decP j q = y ∧ ((j = q ∧ y = -1) ∨ (q < j ∧ y = (q : Int))) := by
                          rcases i2 with rfl | ⟨h1, h2⟩
                          · exact ⟨j, Nat.le_refl _, by unfold decP; rw [if_pos rfl], .inl ⟨rfl, rfl⟩⟩
                          · exact ⟨y.toNat, by omega, by unfold decP; rw [if_neg (by omega)]; omega, .inr ⟨by omega, by omega⟩⟩
                        obtain ⟨p, hp1, hp2, hp3⟩ := hx
                        obtain ⟨q, hq1, hq2, hq3⟩ := hy
                        have HNY := Lib.hid (HNX.out p q hp1 hp2 hq2)
                        have c1 := HR.out.cell (show q < j + 1 by omega)
                        have c2 := HR.out.cell (show p < j + 1 by omega)
                        have c3 := HR.out.frozen p
                        obtain ⟨zq, hzq⟩ : ∃ z, hasF j (AL.take t) q = .int .i64 z := ⟨_, rfl⟩
                        obtain ⟨zp, hzp⟩ : ∃ z, hasF j (AL.take t) p = .int .i64 z := ⟨_, rfl⟩
                        have HZ : Hid (p = q → zp = zq) := fun e => by
                          subst e
                          rw [hzq] at hzp
                          cases hzp
                          rfl
                        have HNW : Hid (∀ k, k < j + 1 → (if k = p then hasF j (AL.take t) q else hasF j (AL.take t) k) = hasF j (AL.take (t + 1)) k) := fun k hk => HNY.out k (by omega)
                        rw [hzq] at c1 HNW
                        rw [hzp] at c2
                        clear i1 i2 HNX HNY hp2 hq2 hzq hzp
                        have g1 : ∀ (a : Nat), decide ((a : Int) < 0) = false := fun a => decide_eq_false (by omega)
                        have g2 : decide ((j : Int) < (p : Int)) = false := decide_eq_false (by omega)
                        have g3 : decide ((j : Int) < (q : Int)) = false := decide_eq_false (by omega)
                        rcases hp3 with ⟨rfl, rfl⟩ | ⟨hp3, rfl⟩ <;> rcases hq3 with ⟨rfl, rfl⟩ | ⟨hq3, rfl⟩
                        all_goals
                          try (have hz := HZ.out rfl; subst hz)
                          clear HZ
                          go_wp2_with fail
                          go_quiet (fail)
                          go_wp2_with fail
                          refine ⟨⟨t + 1, by omega, by go_num, ?_, ?_, ?_⟩, by simp [intOf]; omega⟩
                          · exact row_round HR.out HNW.out
                          · exact own_round HR.out HG.out
                          · exact (Go.below_drewN (HB.out.alloc HB.out.size _) _).setCell (Nat.le_refl _) _
                    · obtain rfl : t = AL.length := by omega
                      rw [List.take_length] at HR
                      have HR8 : Hid (we.rowIs w5.heap.size 3 (j + 1) (fun k => if k < j then .int .i64 (k : Int) else hasF j AL k)) := HR.out.congr (fun k hk => by
                        by_cases e : k < j
                        · rw [if_pos e]
                          unfold hasF decP
                          rw [if_neg (by omega), HTB.out k e]
                          unfold encP
                          rw [if_neg (by omega)]
                        · rw [if_neg e])
                      have HV8 : Hid (RdM we _ L1) := HV5.out.later HB.out
                      have HW8 : Hid (RdM we _ L2) := HW5.out.later HB.out
                      have HB8 := Lib.hid (HB5.out.trans (HB.out.mono HB5.out.size))
                      clear HR HG HB HB5 HV5 HW5 HTB HAll HAL
                      go_wp2_with fail
                      go_loopw [156] (fun i wr => ∃ t : Nat, t ≤ j ∧ i = .int .i64 t ∧ wr = we) (fun i _ => j - (intOf i).toNat)
                      case atStart => exact ⟨0, by omega, rfl, rfl⟩
                      case round =>
                        obtain ⟨t, ht, rfl, rfl⟩ := hrel
                        by_cases hlt : t < j
                        · have c1 := HR8.out.cell (show t < j + 1 by omega)
                          simp only [if_pos hlt] at c1
                          have c2 := HR8.out.lt
                          go_wp2_with fail
                          exact ⟨⟨t + 1, by omega, by go_num, trivial⟩, by simp [intOf]; omega⟩
                        · obtain rfl : t = j := by omega
                          cases sp
                          · go_wp2_with fail
                            go_ret
                            exact ⟨rfl, HB8.out⟩
                          · go_wp2_with fail
                            refine (list_any _ L1 _ HV8.out (by have := HN1.out; have := HN40.out; omega)).mono ?_
                            rintro e w9 ⟨u9', rfl, hs9, hb9⟩
                            have HB9 := Lib.hid (HB8.out.trans (hb9.mono HB8.out.size))
                            have HW9 : Hid (RdM w9 _ L2) := HW8.out.later hb9
                            have HS := Lib.hid hs9
                            clear hb9 hs9 HB8 HV8 HW8 HR8
                            go_wp2_with fail
                            refine (circles_all _ L1 _ HS.out.rd HR1.out).mono ?_
                            rintro e w10 ⟨rfl, hb10⟩
                            have HB10 := Lib.hid (HB9.out.trans (hb10.mono HB9.out.size))
                            have HW10 : Hid (RdM w10 _ L2) := HW9.out.later hb10
                            rw [refCircF_is HD1.out]
                            clear hb10 HB9 HW9 HS
                            go_wp2_with fail
                            refine (list_any _ L2 _ HW10.out (by have := HN2.out; have := HN40.out; omega)).mono ?_
                            rintro e w11 ⟨u11', rfl, hs11, hb11⟩
                            have HB11 := Lib.hid (HB10.out.trans (hb11.mono HB10.out.size))
                            have HS := Lib.hid hs11
                            clear hb11 hs11 HB10 HW10
                            go_wp2_with fail
                            refine (circles_all _ L2 _ HS.out.rd HR2.out).mono ?_
                            rintro e w12 ⟨rfl, hb12⟩
                            have HB12 := Lib.hid (HB11.out.trans (hb12.mono HB11.out.size))
                            rw [refCircF_is HD2.out, HC12.out]
                            clear hb12 HB11 HS
                            go_wp2_with fail
                            go_ret
                            exact ⟨rfl, HB12.out⟩
end Go.Proofs.Ytmdmfciicoldoaa
