/- Walks: the reference's reader of an instruction. -/
import Derived.Test.YtlnaaoigggfefaaS
import Derived.Test.YtlnaaoigggfefaaK
import Derived.Test.YtlnaaoigggfefaaM
import Derived.Deep.DeepCutAuto
import Derived.Deep.AppendLies
namespace Go.Proofs.Ytlnaaoigggfefaa
open Go.RowKit

def RDPost (l : List Int) (w : World) (e : Ending) (w' : World) : Prop :=
  Below w.heap.size w w' ∧ ∃ (op a b c imm n : Int), e = .returned (.tuple #[.agg #[.int .u8 op, .int .u8 a, .int .u8 b, .int .u8 c, .int .i64 imm], .int .i64 n]) ∧
    (∀ x k, decS l = some (x, k) → x = ⟨op, a, b, c, imm⟩ ∧ n = k) ∧ (decS l = none → op = 0 ∧ a = 0 ∧ b = 0 ∧ c = 0 ∧ imm = 0 ∧ n = 0)

theorem rdPost_no {l : List Int} {w w' : World} (h : decS l = none) (hb : Below w.heap.size w w') : RDPost l w (.returned (.tuple #[.agg #[.int .u8 0, .int .u8 0, .int .u8 0, .int .u8 0, .int .i64 0], .int .i64 0])) w' :=
  ⟨hb, 0, 0, 0, 0, 0, 0, rfl, fun x k hx => (by rw [h] at hx; cases hx), fun _ => ⟨rfl, rfl, rfl, rfl, rfl, rfl⟩⟩
theorem rdPost_yes {l : List Int} {w w' : World} {op a b c imm : Int} {k : Nat} {n : Int} (h : decS l = some (⟨op, a, b, c, imm⟩, k)) (hn : n = k) (hb : Below w.heap.size w w') : RDPost l w (.returned (.tuple #[.agg #[.int .u8 op, .int .u8 a, .int .u8 b, .int .u8 c, .int .i64 imm], .int .i64 n])) w' :=
  ⟨hb, op, a, b, c, imm, n, rfl, fun x k' hx => (by rw [h] at hx; cases hx; exact ⟨rfl, hn⟩), fun hx => (by rw [h] at hx; cases hx)⟩

set_option maxRecDepth 100000 in
theorem rdecode_nil (a : Option Addr) (c : Nat) (w : World) : Calls Try.prog 11 #[.slice a 0 c] w (RDPost [] w) := by
  go_enter Try.func11, Try.ntmps11
  go_wp2
  refine bodyPost_ret (v := .tuple #[.agg #[.int .u8 0, .int .u8 0, .int .u8 0, .int .u8 0, .int .i64 0], .int .i64 0]) ?_ rfl (rdPost_no rfl ((Below.refl _ _).alloc (Nat.le_refl _) _))
  simp [results, Try.results11, go_sem]

set_option maxRecDepth 100000 in
set_option maxHeartbeats 1000000 in
theorem rdecode_bad (b off c : Nat) (op : Int) (t : List Int) (w : World) (q : Nat) (i ok : Bool) (lo hi : Int) (o0 : 0 ≤ op) (o1 : op ≤ 255) (hs : shp op = ((q : Int), i, lo, hi, ok)) (hq3 : q ≤ 3) (hbad : ok = false ∨ t.length < q) (hb : b < w.heap.size) (hlt : t.length + 1 ≤ 9223372036854775807)
    (c0 : w.cell? ⟨b, off, none⟩ = some (.int .u8 op)) : Calls Try.prog 11 #[.slice (some ⟨b, off, none⟩) (t.length + 1) c] w (RDPost (op :: t) w) := by
  have hz : ((t.length : Int) + 1 == 0) = false := by simp; omega
  have HN : Hid (decS (op :: t) = none) := by
    show _ = _
    rcases hbad with rfl | h
    · simp [decS, hs]
    · cases ok <;> simp [decS, hs]; omega
  have hn := fun w => names_any op w o0 o1
  have e1 : nmR op = if ok then (q : Int) else -1 := by simp [nmR, hs]
  have e2 : nmI op = (ok && i) := by simp [nmI, hs]
  rw [e1, e2] at hn
  have HS := Lib.hid hn
  have hlq : ok = true → t.length < q := by rcases hbad with rfl | h <;> simp [*]
  have HQ := Lib.hid hlq
  clear hs hbad hlq hn e1 e2
  go_enter Try.func11, Try.ntmps11
  go_wp2_with fail
  refine (HS.out _).mono ?_
  rintro e w1 ⟨rfl, hb1⟩
  obtain ⟨hc1, hf1⟩ := bcell hb1
  have hz1 : w.heap.size < w1.heap.size := by have := hb1.size; simp at this; omega
  have HB1 : Hid (Below w.heap.size w w1) := ((Below.refl _ _).alloc (Nat.le_refl _) _).trans (hb1.mono (by simp))
  clear hb1 HS
  cases ok
  · simp only [Bool.false_eq_true, if_false, Bool.false_and]
    go_wp2_with fail
    refine bodyPost_ret (v := .tuple #[.agg #[.int .u8 0, .int .u8 0, .int .u8 0, .int .u8 0, .int .i64 0], .int .i64 0]) ?_ rfl (rdPost_no HN.out ?_)
    · simp [results, Try.results11, go_sem, hc1]
    · repeat (with_reducible (first | exact HB1.out | refine Below.alloc ?_ ?_ _ | refine Below.setCell ?_ ?_ _ | exact Nat.le_refl _ | (simp; done) | (simp; omega)))
  · have hq := HQ.out rfl
    simp only [if_true, Bool.true_and]
    go_wp2_with fail
    refine bodyPost_ret (v := .tuple #[.agg #[.int .u8 0, .int .u8 0, .int .u8 0, .int .u8 0, .int .i64 0], .int .i64 0]) ?_ rfl (rdPost_no HN.out ?_)
    · simp [results, Try.results11, go_sem, hc1]
    · repeat (with_reducible (first | exact HB1.out | refine Below.alloc ?_ ?_ _ | refine Below.setCell ?_ ?_ _ | exact Nat.le_refl _ | (simp; done) | (simp; omega)))

/-- Bytes behind a slice of bytes: the values that the run makes of them. -/
theorem slices_of {w : World} {b off c : Nat} {op : Int} {t : List Int} {q : Nat} (hv : RdB w (.slice (some ⟨b, off, none⟩) (t.length + 1) c) (op :: t)) (hlt : t.length + 1 ≤ c) (hql : q ≤ t.length) :
    (∃ va, (∀ W : World, (Instr.slice 22 (.slice (some ⟨b, off, none⟩) (t.length + 1) c) (some (.int .i64 1)) (some (.int .i64 (1 + (q : Int)))) none).run Try.prog W = .ok va W) ∧ RdB w va (t.take q)) ∧
    (∃ va, (∀ W : World, (Instr.slice 22 (.slice (some ⟨b, off, none⟩) (t.length + 1) c) (some (.int .i64 (1 + (q : Int)))) none none).run Try.prog W = .ok va W) ∧ RdB w va (t.drop q)) := by
  obtain ⟨i0, hi0, hz0, hz1', hz2⟩ := info_parts infoB
  constructor
  · refine ⟨_, fun W => run_slice_mid 22 5 Try.underlying22 hi0 hz1' _ _ _ 1 (1 + q) _ _ (by omega) (by omega) (by omega) (by omega) W, ?_⟩
    have := rdB_mid (l := 1) (h := 1 + q) hv (by simp) (by omega) (by omega)
    rw [show ((op :: t).take (1 + q)).drop 1 = t.take q by rw [Nat.add_comm]; rfl] at this
    exact this
  · refine ⟨_, fun W => run_slice_from 22 5 Try.underlying22 hi0 hz1' _ _ _ (1 + q) _ (by omega) (by omega) W, ?_⟩
    have := rdB_mid (l := 1 + q) (h := t.length + 1) hv (by simp) (by omega) (by omega)
    rw [show ((op :: t).take (t.length + 1)).drop (1 + q) = t.drop q by rw [List.take_of_length_le (by simp), Nat.add_comm]; rfl] at this
    exact this

theorem own_zero (w : World) (base : Nat) (A : Obj) (hb : base ≤ w.heap.size) :
    ((w.alloc A).alloc (.cells #[] 5)).ownsRow base 5 1 (.slice (some ⟨w.heap.size + 1, 0, none⟩) 0 0) 0 [] := by
  have h := World.ownsRow_lit (e := 5) (size := 1) (base := base) (w.alloc A) #[] 0 (by simp; omega) (by unfold maxLen; omega) (by simp)
  rw [World.size_alloc] at h
  exact h

theorem rd_zeros (w : World) : Rd (w.alloc (.cells #[.int .u8 0, .int .u8 0, .int .u8 0] 5)) 1 (.slice (some ⟨w.heap.size, 0, none⟩) 3 3) 3 [.int .u8 0, .int .u8 0, .int .u8 0] :=
  rd_three _ _ 3 0 0 0 (Nat.le_refl _) (heap_alloc_new w _)

structure RDLoop (op imm : Int) (t : List Int) (q : Nat) (w w1 wr : World) : Prop where
  bel : Below w.heap.size w wr
  word : wr.heap[w1.heap.size]? = some (.cells #[.int .u8 op, .int .u8 (gR t 0 q), .int .u8 (gR t 1 q), .int .u8 (gR t 2 q), .int .i64 imm] 26)
  res : wr.heap[w.heap.size]? = some (.cells #[.int .u8 0, .int .u8 0, .int .u8 0, .int .u8 0, .int .i64 0] 26)

def chkR (p : List Int) (x : W) : Option (W × Nat) := if formB x then (if (encL x).length ≤ p.length ∧ p.take (encL x).length = encL x then some (x, (encL x).length) else none) else none

theorem encL_bd (x : W) (ho : 0 ≤ x.op ∧ x.op ≤ 255) (ha : 0 ≤ x.a ∧ x.a ≤ 255) (hb : 0 ≤ x.b ∧ x.b ≤ 255) (hc : 0 ≤ x.c ∧ x.c ≤ 255) : isB (encL x) := by
  obtain ⟨r, i, lo, hi, ok, hs⟩ : ∃ r i lo hi ok, shp x.op = (r, i, lo, hi, ok) := ⟨_, _, _, _, _, rfl⟩
  intro y hy
  simp only [encL, hs, List.mem_cons, List.mem_append] at hy
  rcases hy with rfl | hy | hy
  · exact ho
  · have := List.mem_of_mem_take hy
    simp at this
    rcases this with rfl | rfl | rfl <;> assumption
  · cases i
    · simp at hy
    · simp only [if_true, numL, List.mem_cons] at hy
      have := nbL_le x.imm (x.op == 30)
      rcases hy with rfl | hy
      · omega
      · exact bytesL_bd _ _ y hy

theorem val_step (u : List Int) (k m : Nat) (hB : isB u) (hm : m + 1 ≤ k) (hk : k ≤ u.length) (h8 : k ≤ 8) :
    valL ((u.take k).drop m) = 256 * valL ((u.take k).drop (m + 1)) + u.getD m 0 ∧ 0 ≤ valL ((u.take k).drop (m + 1)) ∧ 256 * valL ((u.take k).drop (m + 1)) + 255 ≤ 18446744073709551615 := by
  have hl : (u.take k).length = k := by rw [List.length_take]; omega
  have hmk : m < (u.take k).length := by omega
  have e : (u.take k).drop m = (u.take k)[m] :: (u.take k).drop (m + 1) := List.drop_eq_getElem_cons hmk
  have e2 : (u.take k)[m] = u.getD m 0 := by
    have h : m < u.length := by omega
    simp [h]
  have hv := valL_bd ((u.take k).drop (m + 1)) (fun x hx => hB x (List.mem_of_mem_take (List.mem_of_mem_drop hx)))
  rw [List.length_drop, hl] at hv
  refine ⟨by rw [e, valL, e2]; omega, hv.1, ?_⟩
  have hp : (256 : Int) ^ (k - (m + 1)) ≤ 256 ^ 7 := by
    rcases le8 (show k - (m + 1) ≤ 8 by omega) with h | h | h | h | h | h | h | h | h <;> rw [h] <;> first | decide | omega
  have : (256 : Int) ^ 7 = 72057594037927936 := by decide
  omega

theorem ext_step (V : Int) (k j : Nat) (hv : 0 ≤ V ∧ V < 256 ^ k) (hk : k ≤ j) (h8 : j < 8) :
    ∃ Y : Int, V + (256 ^ (j + 1) - 256 ^ k) = (V + (256 ^ j - 256 ^ k)) + Y ∧ IntKind.u64.wrap (255 * 2 ^ (8 * j)) = Y ∧ IntKind.u64.wrap ((V + (256 ^ j - 256 ^ k)) + Y) = (V + (256 ^ j - 256 ^ k)) + Y := by
  refine ⟨255 * 256 ^ j, by rw [Int.pow_succ]; omega, ?_, ?_⟩
  · have e : (2 : Int) ^ (8 * j) = 256 ^ j := by rw [Int.pow_mul]; rfl
    rw [IntKind.wrap_u64, e]
    rcases le8 (show j ≤ 8 by omega) with h | h | h | h | h | h | h | h | h <;> subst h <;> first | rfl | omega
  · rw [IntKind.wrap_u64]
    rcases le8 (show j ≤ 8 by omega) with h | h | h | h | h | h | h | h | h <;> subst h <;>
    rcases le8 (show k ≤ 8 by omega) with h | h | h | h | h | h | h | h | h <;> subst h <;> simp at hv ⊢ <;> omega

structure RDCut (op imm : Int) (t : List Int) (q : Nat) (w w1 wr : World) : Prop where
  loop : RDLoop op imm t q w w1 wr
  lo : -9223372036854775808 ≤ imm
  hi : imm ≤ 9223372036854775807
  spec : decS (op :: t) = chkR (op :: t) ⟨op, gR t 0 q, gR t 1 q, gR t 2 q, imm⟩

theorem refV_bd (bs : List Int) (s : Bool) : -9223372036854775808 ≤ refV bs s ∧ refV bs s ≤ 9223372036854775807 := by
  unfold refV wrap64
  split <;> omega
theorem rd_meet {op : Int} {t : List Int} {q : Nat} {w w1 wA : World} {bs : List Int} {s : Bool} (h : RDLoop op 0 t q w w1 wA) (hz1 : w.heap.size < w1.heap.size) (hD : decS (op :: t) = chkR (op :: t) (regsOf op q t (refV bs s))) :
    RDCut op (refV bs s) t q w w1 (wA.setCell ⟨w1.heap.size, 4, none⟩ (.int .i64 (refV bs s))) := by
  refine ⟨⟨h.bel.setCell (Nat.le_of_lt hz1) _, ?_, ?_⟩, (refV_bd bs s).1, (refV_bd bs s).2, ?_⟩
  · rw [heap_setCell_same _ _ _ _ _ _ h.word]; rfl
  · rw [heap_setCell_other _ _ _ _ (by simp; omega)]; exact h.res
  · rw [hD]; simp [regsOf, gR, Nat.succ_le_iff]

theorem gR_bd (t : List Int) (q j : Nat) (hB : isB t) : 0 ≤ gR t j q ∧ gR t j q ≤ 255 := by
  unfold gR
  split
  · by_cases hj : j < t.length
    · have := hB t[j] (List.getElem_mem hj); simpa [hj] using this
    · simp [List.getElem?_eq_none (Nat.le_of_not_lt hj)]
  · omega
theorem own_gR (t : List Int) (q j : Nat) (hq : q ≤ t.length) (hj : j < 3) : ([] ++ (t.take q).map (Value.int .u8) ++ [Value.int .u8 0, .int .u8 0, .int .u8 0])[j]? = some (.int .u8 (gR t j q)) := by
  have hl : (t.take q).length = q := by rw [List.length_take]; omega
  by_cases h : j < q
  · rw [List.nil_append, List.getElem?_append_left (by simp; omega)]
    have : j < t.length := by omega
    simp [gR, h, this]
  · rw [List.nil_append, List.getElem?_append_right (by simp; omega)]
    have hx : ∀ k, k < 3 → ([Value.int .u8 0, .int .u8 0, .int .u8 0] : List Value)[k]? = some (.int .u8 0) := by
      intro k hk
      have : k = 0 ∨ k = 1 ∨ k = 2 := by omega
      rcases this with rfl | rfl | rfl <;> rfl
    rw [hx _ (by simp; omega)]
    simp [gR, h]

set_option maxRecDepth 100000 in
set_option maxHeartbeats 8000000 in
theorem rdecode_main (b off c : Nat) (op : Int) (t : List Int) (w : World) (q : Nat) (i : Bool) (lo hi : Int) (o0 : 0 ≤ op) (o1 : op ≤ 255) (hs : shp op = ((q : Int), i, lo, hi, true)) (hq3 : q ≤ 3) (hql : q ≤ t.length) (hb : b < w.heap.size) (hlt : t.length + 1 ≤ c) (hc9 : c ≤ 9223372036854775807)
    (hv : RdB w (.slice (some ⟨b, off, none⟩) (t.length + 1) c) (op :: t)) (hB : isB (op :: t))
    (c0 : w.cell? ⟨b, off, none⟩ = some (.int .u8 op)) : Calls Try.prog 11 #[.slice (some ⟨b, off, none⟩) (t.length + 1) c] w (RDPost (op :: t) w) := by
  have hz : ((t.length : Int) + 1 == 0) = false := by simp; omega
  have hlt' : t.length + 1 ≤ 9223372036854775807 := by omega
  have hq3' : (q : Int) ≤ 3 := by omega
  have hq0' : (0 : Int) ≤ (q : Int) := by omega
  obtain ⟨⟨va, hva, ra⟩, ⟨vb, hvb, rb⟩⟩ := slices_of hv hlt hql
  have hn := fun w => names_any op w o0 o1
  have e1 : nmR op = (q : Int) := by simp [nmR, hs]
  have e2 : nmI op = i := by simp [nmI, hs]
  rw [e1, e2] at hn
  have HS := Lib.hid hn
  have HRA := Lib.hid ra
  have HRB := Lib.hid rb
  have HSH := Lib.hid hs
  have HV := Lib.hid hv
  have HB := Lib.hid hB
  obtain ⟨i0, hi, hz0, hz1, hz2⟩ := info_parts infoB
  have HI : Hid _ := And.intro hi (And.intro hz0 (And.intro hz1 hz2))
  have hql' : (q : Int) ≤ (t.length : Int) := by omega
  have HO := Lib.hid (And.intro o0 o1)
  have hgr := fun j => gR_bd t q j (fun x hx => hB x (List.mem_cons_of_mem _ hx))
  have HGR := Lib.hid hgr
  clear hs hv hB ra rb e1 e2 hn hi hz0 hz1 hz2 o0 o1 hgr
  go_enter Try.func11, Try.ntmps11
  go_wp2_with fail
  refine (HS.out _).mono ?_
  rintro e w1 ⟨rfl, hb1⟩
  have hz1 : w.heap.size < w1.heap.size := by have := hb1.size; simp at this; omega
  have HB1 : Hid (Below w.heap.size w w1) := ((Below.refl _ _).alloc (Nat.le_refl _) _).trans (hb1.mono (by simp))
  have HR1 : Hid (w1.heap[w.heap.size]? = some (.cells #[.int .u8 0, .int .u8 0, .int .u8 0, .int .u8 0, .int .i64 0] 26)) := by
    show _ = _; rw [hb1.block w.heap.size (by simp)]; exact heap_alloc_new w _
  have d0 : w1.cell? ⟨b, off, none⟩ = some (.int .u8 op) := by
    rw [HB1.out.cell hb]; exact c0
  have hb' : b < w1.heap.size := by omega
  clear hb1 HS
  have n1 : 0 + (t.take q).length ≤ maxLen := by rw [List.length_take]; unfold maxLen; omega
  have n2 : (0 + (t.take q).length) * 1 ≤ 140737488355328 := by rw [List.length_take]; omega
  have n3 : (0 + (t.take q).length) + 3 ≤ maxLen := by rw [List.length_take]; unfold maxLen; omega
  have n4 : ((0 + (t.take q).length) + 3) * 1 ≤ 140737488355328 := by rw [List.length_take]; omega
  have ra1 : Hid (RdB w1 va (t.take q)) := Rd.later HRA.out HB1.out
  have N := Lib.hid (And.intro n1 (And.intro n2 (And.intro n3 n4)))
  clear n1 n2 n3 n4
  have hlq : (t.take q).length = q := by rw [List.length_take]; omega
  have HLQ := Lib.hid hlq
  clear hlq
  go_wp2_with (first
    | (at_builtin; refine wpList_append_own_rd _ rfl _ _ 22 rfl w.heap.size 5 i0 (.int .u8 0) 1 1 Try.underlying22 HI.out.1 HI.out.2.1 HI.out.2.2.1 HI.out.2.2.2 rfl (by decide) _ 0 [] rfl (own_zero w1 w.heap.size _ (Nat.le_of_lt hz1)) va _ _ rfl (Rd.alloc (Rd.alloc ra1.out _) _) (ints_oneCell .u8 _) N.out.1 N.out.2.1 (by simp; omega) ?_; intro v2 w2 hown2 hgrow2)
    | (at_builtin; refine wpList_append_own_g _ rfl _ _ 22 rfl w.heap.size 5 i0 (.int .u8 0) 1 1 Try.underlying22 HI.out.1 HI.out.2.1 HI.out.2.2.1 HI.out.2.2.2 rfl (by decide) _ _ _ rfl (hown2.alloc _) (.slice (some ⟨w2.heap.size, 0, none⟩) 3 3) 3 [.int .u8 0, .int .u8 0, .int .u8 0] rfl (rd_zeros w2) (ints_oneCell .u8 [0, 0, 0]) (q + 3) (by rw [HLQ.out]; omega) (by omega) (by unfold maxLen; omega) (by omega) (by have := hgrow2.size; simp at this ⊢; omega) ?_; intro g c3 w3 hown3 hgrow3))
  have zw2 : w1.heap.size + 2 ≤ w2.heap.size := by have := hgrow2.size; simp at this; omega
  have zw3 : w2.heap.size + 1 ≤ w3.heap.size := by have := hgrow3.size; simp at this; omega
  have hW2 : w2.heap[w1.heap.size]? = some (.cells #[.int .u8 op, .int .u8 0, .int .u8 0, .int .u8 0, .int .i64 0] 26) := by
    rw [hgrow2.block _ (by simp; omega) (own_ne (own_zero w1 w.heap.size (.cells #[.int .u8 op, .int .u8 0, .int .u8 0, .int .u8 0, .int .i64 0] 26) (Nat.le_of_lt hz1)) (c := #[.int .u8 op, .int .u8 0, .int .u8 0, .int .u8 0, .int .i64 0]) (e' := 26) (f := (0, 0)) (by rw [heap_alloc_old _ _ (by simp), heap_alloc_new]) (by decide)), heap_alloc_old _ _ (by simp), heap_alloc_new]
  have hR2 : w2.heap[w.heap.size]? = some (.cells #[.int .u8 0, .int .u8 0, .int .u8 0, .int .u8 0, .int .i64 0] 26) := by
    rw [hgrow2.block _ (by simp; omega) (own_ne (own_zero w1 w.heap.size (.cells #[.int .u8 op, .int .u8 0, .int .u8 0, .int .u8 0, .int .i64 0] 26) (Nat.le_of_lt hz1)) (c := #[.int .u8 0, .int .u8 0, .int .u8 0, .int .u8 0, .int .i64 0]) (e' := 26) (f := (0, 0)) (by rw [heap_alloc_old _ _ (by simp; omega), heap_alloc_old _ _ hz1]; exact HR1.out) (by decide)), heap_alloc_old _ _ (by simp; omega), heap_alloc_old _ _ hz1]; exact HR1.out
  have hW3 : w3.heap[w1.heap.size]? = some (.cells #[.int .u8 op, .int .u8 0, .int .u8 0, .int .u8 0, .int .i64 0] 26) := by
    rw [hgrow3.block _ (by simp; omega) (own_ne hown2 hW2 (by decide)), heap_alloc_old _ _ (by omega)]; exact hW2
  have hR3 : w3.heap[w.heap.size]? = some (.cells #[.int .u8 0, .int .u8 0, .int .u8 0, .int .u8 0, .int .i64 0] 26) := by
    rw [hgrow3.block _ (by simp; omega) (own_ne hown2 hR2 (by decide)), heap_alloc_old _ _ (by omega)]; exact hR2
  have HB2 : Below w.heap.size w w2 := by
    refine Below.grown (row := _) ?_ hgrow2 (by simp; omega) (fun k hk => by cases hk; show w.heap.size ≤ w1.heap.size + 1; omega)
    exact (HB1.out.alloc (by omega) _).alloc (by simp; omega) _
  have HB3 : Hid (Below w.heap.size w w3) := (HB2.alloc (by omega) _).grown hgrow3 (by simp; omega) (fun k hk => (hown2.lt k hk).1)
  have hg1 : g ≠ w1.heap.size := fun h => own_ne hown3 hW3 (by decide) (by rw [h]; rfl)
  have q0 : w3.cell? ⟨g, 0, none⟩ = some (.int .u8 (gR t 0 q)) := by rw [hown3.cellAt 0 (by omega)]; exact own_gR t q 0 hql (by omega)
  have q1 : w3.cell? ⟨g, 1, none⟩ = some (.int .u8 (gR t 1 q)) := by rw [hown3.cellAt 1 (by omega)]; exact own_gR t q 1 hql (by omega)
  have q2 : w3.cell? ⟨g, 2, none⟩ = some (.int .u8 (gR t 2 q)) := by rw [hown3.cellAt 2 (by omega)]; exact own_gR t q 2 hql (by omega)
  have f1 : ∀ o, w3.frozen? ⟨w1.heap.size, o, none⟩ = false := fun o => free_of_heap hW3
  have s1 : w3.cell? ⟨w1.heap.size, 1, none⟩ = some (.int .u8 0) := cell_of_heap hW3 rfl
  have s2 : w3.cell? ⟨w1.heap.size, 2, none⟩ = some (.int .u8 0) := cell_of_heap hW3 rfl
  have s3 : w3.cell? ⟨w1.heap.size, 3, none⟩ = some (.int .u8 0) := cell_of_heap hW3 rfl
  have HH := Lib.hid (And.intro hW3 hR3)
  clear hW2 hR2 HB2 hown2 hown3 hgrow2 hgrow3 hW3 hR3 hva ra1 N HLQ
  go_region
  generalize hwA : World.drew _ = wA
  have HL : Hid (RDLoop op 0 t q w w1 wA) := by
    rw [← hwA]
    have z1 := (Array.getElem?_eq_some_iff.1 HH.out.1).1
    refine ⟨?_, ?_, ?_⟩
    · refine Below.drew (Below.setCell (Below.setCell (Below.setCell HB3.out ?_ _) ?_ _) ?_ _) <;> (simp; omega)
    · rw [heap_drew, heap_setCell_same _ _ _ _ _ _ (heap_setCell_same _ _ _ _ _ _ (heap_setCell_same _ _ _ _ _ _ HH.out.1))]; rfl
    · rw [heap_drew, heap_setCell_other _ _ _ _ (by simp; omega), heap_setCell_other _ _ _ _ (by simp; omega), heap_setCell_other _ _ _ _ (by simp; omega)]; exact HH.out.2
  clear hwA HH HB3 q0 q1 q2 f1 s1 s2 s3 hg1
  go_upto_if 59 with fail
  go_cut [] (fun wx => ∃ imm : Int, RDCut op imm t q w w1 wx)
  case first =>
    cases i
    · go_wp2_with fail
      go_meet
      refine ⟨0, HL.out, by omega, by omega, ?_⟩
      rw [← decR_is _ HB.out]
      simp only [decR, HSH.out, Int.toNat_natCast]
      rw [if_neg (by simp), if_neg (by simp; omega)]
      simp [chkR, regsOf, gR, Nat.succ_le_iff]
    · rcases HRB.out.split with ⟨a2, c2, rfl, hnil⟩ | ⟨b2, o2, c2, rfl, hp2, hlc2, hc92, hb2, hcell2⟩
      · have HN : Hid (decS (op :: t) = none) := by
          show _ = _; simp only [decS, HSH.out, Int.toNat_natCast, if_true, hnil]; rw [if_neg (by simp), if_neg (by simp; omega)]; rfl
        have r0 : wA.cell? ⟨w.heap.size, 0, none⟩ = some (.int .u8 0) := cell_of_heap HL.out.res rfl
        have r1 : wA.cell? ⟨w.heap.size, 1, none⟩ = some (.int .u8 0) := cell_of_heap HL.out.res rfl
        have r2 : wA.cell? ⟨w.heap.size, 2, none⟩ = some (.int .u8 0) := cell_of_heap HL.out.res rfl
        have r3 : wA.cell? ⟨w.heap.size, 3, none⟩ = some (.int .u8 0) := cell_of_heap HL.out.res rfl
        have r4 : wA.cell? ⟨w.heap.size, 4, none⟩ = some (.int .i64 0) := cell_of_heap HL.out.res rfl
        have r5 : ∀ o, wA.frozen? ⟨w.heap.size, o, none⟩ = false := fun o => free_of_heap HL.out.res
        clear hnil
        go_wp2_with fail
        refine bodyPost_ret (v := .tuple #[.agg #[.int .u8 0, .int .u8 0, .int .u8 0, .int .u8 0, .int .i64 0], .int .i64 0]) ?_ rfl (rdPost_no HN.out ?_)
        · simp [results, Try.results11, go_sem, r0, r1, r2, r3, r4]
        · repeat (with_reducible (first | exact HL.out.bel | refine Below.alloc ?_ ?_ _ | refine Below.setCell ?_ ?_ _ | exact Nat.le_refl _ | (simp; done) | (simp; omega)))
      · obtain ⟨k, u, hL⟩ : ∃ k u, t.drop q = k :: u := by cases hL : t.drop q with
          | nil => simp [hL] at hp2
          | cons k u => exact ⟨k, u, rfl⟩
        have hBL : isB (k :: u) := fun x hx => HB.out x (List.mem_cons_of_mem _ (List.mem_of_mem_drop (by rw [hL]; exact hx)))
        have hk := hBL k (List.mem_cons_self ..)
        have hBu : isB u := fun x hx => hBL x (List.mem_cons_of_mem _ hx)
        have c20 : wA.cell? ⟨b2, o2, none⟩ = some (.int .u8 k) := by
          have := hcell2 0 hp2; rw [HL.out.bel.cell hb2]; simpa [hL] using this
        have c21 : ∀ j, j < u.length → wA.cell? ⟨b2, o2 + (j + 1), none⟩ = some (.int .u8 (u.getD j 0)) := fun j hj => by
          have := hcell2 (j + 1) (by rw [hL]; simp; omega); rw [HL.out.bel.cell hb2]; simpa [hL] using this
        obtain ⟨kn, rfl⟩ := Int.eq_ofNat_of_zero_le hk.1
        have hk2 := hk.2
        have hlen : (t.drop q).length = u.length + 1 := by rw [hL]; simp
        rw [hlen] at hlc2 hvb
        have hzu : ((u.length : Int) + 1 == 0) = false := by simp; omega
        have hlu : u.length + 1 ≤ 9223372036854775807 := by omega
        have HC2 := Lib.hid c21
        have HBu := Lib.hid hBu
        have HD : Hid (decR (op :: t) = if decide (8 < (kn : Int)) || decide ((u.length : Int) < kn) then none else chkR (op :: t) (regsOf op q t (refV (u.take kn) (op == 30)))) := by
          show _ = _; simp only [decR, HSH.out, Int.toNat_natCast, if_true, hL]; rw [if_neg (by simp), if_neg (by simp; omega)]; rfl
        have r0 : wA.cell? ⟨w.heap.size, 0, none⟩ = some (.int .u8 0) := cell_of_heap HL.out.res rfl
        have r1 : wA.cell? ⟨w.heap.size, 1, none⟩ = some (.int .u8 0) := cell_of_heap HL.out.res rfl
        have r2 : wA.cell? ⟨w.heap.size, 2, none⟩ = some (.int .u8 0) := cell_of_heap HL.out.res rfl
        have r3 : wA.cell? ⟨w.heap.size, 3, none⟩ = some (.int .u8 0) := cell_of_heap HL.out.res rfl
        have r4 : wA.cell? ⟨w.heap.size, 4, none⟩ = some (.int .i64 0) := cell_of_heap HL.out.res rfl
        have r5 : ∀ o, wA.frozen? ⟨w.heap.size, o, none⟩ = false := fun o => free_of_heap HL.out.res
        clear hcell2 hBL hBu hk hlen hL c21 hp2
        by_cases hbad : 8 < kn ∨ u.length < kn
        · have HN : Hid (decS (op :: t) = none) := by
            show _ = _; rw [← decR_is _ HB.out, HD.out, if_pos]; simp; omega
          by_cases h8 : 8 < kn
          · clear hbad
            go_wp2_with fail
            refine bodyPost_ret (v := .tuple #[.agg #[.int .u8 0, .int .u8 0, .int .u8 0, .int .u8 0, .int .i64 0], .int .i64 0]) ?_ rfl (rdPost_no HN.out ?_)
            · simp [results, Try.results11, go_sem, r0, r1, r2, r3, r4]
            · repeat (with_reducible (first | exact HL.out.bel | refine Below.alloc ?_ ?_ _ | refine Below.setCell ?_ ?_ _ | exact Nat.le_refl _ | (simp; done) | (simp; omega)))
          · have hul : u.length < kn := by omega
            clear hbad
            go_wp2_with fail
            refine bodyPost_ret (v := .tuple #[.agg #[.int .u8 0, .int .u8 0, .int .u8 0, .int .u8 0, .int .i64 0], .int .i64 0]) ?_ rfl (rdPost_no HN.out ?_)
            · simp [results, Try.results11, go_sem, r0, r1, r2, r3, r4]
            · repeat (with_reducible (first | exact HL.out.bel | refine Below.alloc ?_ ?_ _ | refine Below.setCell ?_ ?_ _ | exact Nat.le_refl _ | (simp; done) | (simp; omega)))
        · have hk8 : kn ≤ 8 := by omega
          have hku : kn ≤ u.length := by omega
          have w0 : wA.cell? ⟨w1.heap.size, 0, none⟩ = some (.int .u8 op) := cell_of_heap HL.out.word rfl
          have w4 : wA.cell? ⟨w1.heap.size, 4, none⟩ = some (.int .i64 0) := cell_of_heap HL.out.word rfl
          have w5 : ∀ o, wA.frozen? ⟨w1.heap.size, o, none⟩ = false := fun o => free_of_heap HL.out.word
          clear hbad
          go_wp2_with fail
          go_loop [10, 11] (fun v i => ∃ j : Nat, j ≤ kn ∧ i = .int .i64 j ∧ v = .int .u64 (valL ((u.take kn).drop j))) (fun _ i => (intOf i).toNat)
          case atStart => exact ⟨kn, by omega, rfl, by rw [List.drop_of_length_le (by simp; omega)]; rfl⟩
          case round =>
            obtain ⟨j, hj, rfl, rfl⟩ := hrel
            by_cases hj0 : 0 < j
            · obtain ⟨m, rfl⟩ : ∃ m, j = m + 1 := ⟨j - 1, by omega⟩
              obtain ⟨hstep, hv1, hv2⟩ := val_step u kn m (HBu.out) hj hku hk8
              have cm := HC2.out m (by omega)
              obtain ⟨x0, x1⟩ : 0 ≤ u.getD m 0 ∧ u.getD m 0 ≤ 255 := by
                have h : m < u.length := by omega
                have := HBu.out u[m] (List.getElem_mem h); simpa [h] using this
              have HX := Lib.hid hstep
              generalize u.getD m 0 = x at *
              generalize valL ((u.take kn).drop (m + 1)) = V at *
              clear hstep
              go_wp2_with fail
              go_round
              case rel => exact ⟨m, by omega, by go_num, by rw [HX.out]⟩
              case measure => simp [intOf]
            · obtain rfl : j = 0 := by omega
              have hDp : decS (op :: t) = chkR (op :: t) (regsOf op q t (refV (u.take kn) (op == 30))) := by
                rw [← decR_is _ HB.out, HD.out, if_neg]; simp; omega
              have hlb : (u.take kn).length = kn := by rw [List.length_take]; omega
              have hvb := valL_bd (u.take kn) (fun x hx => HBu.out x (List.mem_of_mem_take hx))
              rw [hlb] at hvb
              have hgl : 0 < kn → (u.take kn).getD (kn - 1) 0 = u.getD (kn - 1) 0 := by
                intro h
                have h1 : kn - 1 < u.length := by omega
                have h2 : kn - 1 < kn := by omega
                simp [h1, h2]
              have hrv : refV (u.take kn) (op == 30) = wrap64 (if (op == 30) && decide (0 < kn) && decide (kn < 8) && decide (127 < (u.take kn).getD (kn - 1) 0) then valL (u.take kn) + topS kn else valL (u.take kn)) := by
                simp only [refV, hlb]
              simp only [List.drop_zero]
              have HM : Hid (∀ x : Int, x = refV (u.take kn) (op == 30) → ∃ imm : Int, RDCut op imm t q w w1 (wA.setCell ⟨w1.heap.size, 4, none⟩ (.int .i64 x))) := by
                rintro x rfl
                exact ⟨_, rd_meet HL.out hz1 hDp⟩
              clear hDp HD hlb
              generalize valL (u.take kn) = V at *
              by_cases h30 : op = 30
              · have h30' : (op == 30) = true := by simp [h30]
                by_cases hk0 : kn = 0
                · subst hk0
                  have e : wrap64 V = refV (u.take 0) (op == 30) := by rw [hrv]; simp
                  have HE := Lib.hid e
                  clear e hrv hvb hgl h30
                  go_wp2_with fail
                  go_meet
                  exact HM.out _ HE.out
                · by_cases hk7 : kn = 8
                  · subst hk7
                    have e : wrap64 V = refV (u.take 8) (op == 30) := by rw [hrv]; simp
                    have HE := Lib.hid e
                    clear e hrv hvb hgl h30
                    go_wp2_with fail
                    go_meet
                    exact HM.out _ HE.out
                  · have hkl : kn < 8 := by omega
                    have hk0' : 0 < kn := by omega
                    rw [hgl hk0'] at hrv
                    have cl := HC2.out (kn - 1) (by omega)
                    rw [show kn - 1 + 1 = kn by omega] at cl
                    by_cases hx : 127 < u.getD (kn - 1) 0
                    · have e : wrap64 (V + topS kn) = refV (u.take kn) (op == 30) := by
                        rw [hrv, if_pos]; rw [h30']; simp only [hk0', hkl, hx, decide_true, Bool.and_self]
                      have HE := Lib.hid e
                      have HVB := Lib.hid hvb
                      generalize u.getD (kn - 1) 0 = x at *
                      clear e hrv hvb hgl h30 hk0 hk7
                      go_wp2_with fail
                      go_loop [10, 12] (fun v i => ∃ j : Nat, kn ≤ j ∧ j ≤ 8 ∧ i = .int .i64 j ∧ v = .int .u64 (V + (256 ^ j - 256 ^ kn))) (fun _ i => 8 - (intOf i).toNat)
                      case atStart => exact ⟨kn, Nat.le_refl _, by omega, rfl, by simp⟩
                      case round =>
                        obtain ⟨j, hkj, hj8, rfl, rfl⟩ := hrel
                        by_cases hlj : j < 8
                        · obtain ⟨Y, hY, hs1, hs2⟩ := ext_step V kn j HVB.out hkj hlj
                          have HY := Lib.hid hY
                          generalize V + (256 ^ j - 256 ^ kn) = X at *
                          clear hY
                          go_wp2_with fail
                          exact ⟨⟨j + 1, by omega, by omega, by go_num, by rw [HY.out]⟩, by simp [intOf]; omega⟩
                        · obtain rfl : j = 8 := by omega
                          have e9 : V + (256 ^ 8 - 256 ^ kn) = V + topS kn := by unfold topS; omega
                          rw [e9]
                          clear e9
                          go_wp2_with fail
                          go_meet
                          exact HM.out _ HE.out
                    · have e : wrap64 V = refV (u.take kn) (op == 30) := by
                        rw [hrv, show decide (127 < u.getD (kn - 1) 0) = false from by simp only [hx, decide_false]]; simp only [Bool.and_false, Bool.false_eq_true, if_false]
                      have HE := Lib.hid e
                      generalize u.getD (kn - 1) 0 = x at *
                      clear e hrv hvb hgl h30 hk0 hk7
                      go_wp2_with fail
                      go_meet
                      exact HM.out _ HE.out
              · have h30' : (op == 30) = false := by simp [h30]
                have e : wrap64 V = refV (u.take kn) (op == 30) := by rw [hrv, h30']; simp
                have HE := Lib.hid e
                clear e hrv hvb hgl h30
                go_wp2_with fail
                go_meet
                exact HM.out _ HE.out
  case rest =>
    obtain ⟨imm, hcut⟩ := hcut
    have g0 : wc.cell? ⟨w1.heap.size, 0, none⟩ = some (.int .u8 op) := cell_of_heap hcut.loop.word rfl
    have g1 : wc.cell? ⟨w1.heap.size, 1, none⟩ = some (.int .u8 (gR t 0 q)) := cell_of_heap hcut.loop.word rfl
    have g2 : wc.cell? ⟨w1.heap.size, 2, none⟩ = some (.int .u8 (gR t 1 q)) := cell_of_heap hcut.loop.word rfl
    have g3 : wc.cell? ⟨w1.heap.size, 3, none⟩ = some (.int .u8 (gR t 2 q)) := cell_of_heap hcut.loop.word rfl
    have g4 : wc.cell? ⟨w1.heap.size, 4, none⟩ = some (.int .i64 imm) := cell_of_heap hcut.loop.word rfl
    have r0 : wc.cell? ⟨w.heap.size, 0, none⟩ = some (.int .u8 0) := cell_of_heap hcut.loop.res rfl
    have r1 : wc.cell? ⟨w.heap.size, 1, none⟩ = some (.int .u8 0) := cell_of_heap hcut.loop.res rfl
    have r2 : wc.cell? ⟨w.heap.size, 2, none⟩ = some (.int .u8 0) := cell_of_heap hcut.loop.res rfl
    have r3 : wc.cell? ⟨w.heap.size, 3, none⟩ = some (.int .u8 0) := cell_of_heap hcut.loop.res rfl
    have r4 : wc.cell? ⟨w.heap.size, 4, none⟩ = some (.int .i64 0) := cell_of_heap hcut.loop.res rfl
    have r5 : ∀ o, wc.frozen? ⟨w.heap.size, o, none⟩ = false := fun o => free_of_heap hcut.loop.res
    have zc1 : w1.heap.size < wc.heap.size := (Array.getElem?_eq_some_iff.1 hcut.loop.word).1
    have zc : w.heap.size < wc.heap.size := by omega
    have i1 := hcut.lo
    have i2 := hcut.hi
    have HC := Lib.hid hcut
    clear hcut HL
    go_wp2_with fail
    refine (refForm_any _ _ _ _ _ _ HO.out.1 HO.out.2 (HGR.out 0).1 (HGR.out 1).1 (HGR.out 2).1 i2 i1).mono ?_
    cases hf : formB ⟨op, gR t 0 q, gR t 1 q, gR t 2 q, imm⟩
    · have HN : Hid (decS (op :: t) = none) := by show _ = _; rw [HC.out.spec]; simp [chkR, hf]
      rintro e w4 ⟨rfl, hb4⟩
      obtain ⟨hc4, hf4⟩ := bcell hb4
      have zw4 : w.heap.size < w4.heap.size := by have := hb4.size; omega
      have HB4 : Hid (Below w.heap.size w w4) := HC.out.loop.bel.trans (hb4.mono (by omega))
      clear hb4 hf
      go_wp2_with fail
      refine bodyPost_ret (v := .tuple #[.agg #[.int .u8 0, .int .u8 0, .int .u8 0, .int .u8 0, .int .i64 0], .int .i64 0]) ?_ rfl (rdPost_no HN.out ?_)
      · simp [results, Try.results11, go_sem, hc4, zc, r0, r1, r2, r3, r4]
      · repeat (with_reducible (first | exact HB4.out | refine Below.alloc ?_ ?_ _ | refine Below.setCell ?_ ?_ _ | exact Nat.le_refl _ | (simp; done) | (simp; omega)))
    · rintro e w4 ⟨rfl, hb4⟩
      obtain ⟨hc4, hf4⟩ := bcell hb4
      have zw4 : w.heap.size < w4.heap.size := by have := hb4.size; omega
      have z14 : w1.heap.size < w4.heap.size := by have := hb4.size; omega
      have HB4 : Hid (Below w.heap.size w w4) := HC.out.loop.bel.trans (hb4.mono (by omega))
      have HF := Lib.hid hf
      clear hb4 hf
      go_wp2_with fail
      refine (refEncode_any _ _ _ _ _ _ HF.out i1 i2 HO.out.1 HO.out.2).mono ?_
      rintro e w5 ⟨v5, rfl, ho5, hb5⟩
      obtain ⟨a5, c5, hv5⟩ := ownB_shape ho5
      subst hv5
      obtain ⟨hc5, hf5⟩ := bcell hb5
      have zw5 : w.heap.size < w5.heap.size := by have := hb5.size; omega
      have HB5 : Hid (Below w.heap.size w w5) := HB4.out.trans (hb5.mono (by omega))
      have hS := HC.out.spec
      simp only [chkR, HF.out, if_true, List.length_cons] at hS
      have HS := Lib.hid hS
      have HR5 := Lib.hid ho5.rd
      have hE : isB (encL ⟨op, gR t 0 q, gR t 1 q, gR t 2 q, imm⟩) := encL_bd _ HO.out (HGR.out 0) (HGR.out 1) (HGR.out 2)
      have HE := Lib.hid hE
      generalize encL ⟨op, gR t 0 q, gR t 1 q, gR t 2 q, imm⟩ = en at *
      clear hb5 ho5 hS hE
      have hcen : en.length ≤ 9223372036854775807 := HR5.out.le
      by_cases hle : en.length ≤ t.length + 1
      · have hP5 : RdB w5 (.slice (some ⟨b, off, none⟩) (t.length + 1) c) (op :: t) := Rd.later HV.out HB5.out
        have hT5 : RdB w5 (.slice (some ⟨b, off, none⟩) en.length c) ((op :: t).take en.length) := by
          have := Rd.take hP5 hle
          unfold RdB
          rw [List.length_take, Nat.min_eq_left (by simpa using hle)]
          simpa using this
        have k1 := fun n => run_convert_rdB (P := Try.prog) (w := w5.drewN n) (show RdB (w5.drewN n) _ _ from hT5) Try.underlying22 Try.underlying5 (dst := 9) Try.underlying9
        have k2 := fun n => run_convert_rdB (P := Try.prog) (w := w5.drewN n) (show RdB (w5.drewN n) _ _ from HR5.out) Try.underlying22 Try.underlying5 (dst := 9) Try.underlying9
        have hEq : ((strOfNums ((op :: t).take en.length)).toList == (strOfNums en).toList) = eqL ((op :: t).take en.length) en := eqL_str (fun x hx => HB.out x (List.mem_of_mem_take hx)) HE.out
        have hle' : (en.length : Int) ≤ (t.length : Int) + 1 := by omega
        have hlec : (en.length : Int) ≤ (c : Int) := by omega
        have hd : decide ((t.length : Int) + 1 < (en.length : Int)) = false := by simp; omega
        clear hP5 hT5
        cases he : eqL ((op :: t).take en.length) en
        · rw [he] at hEq
          have HN : Hid (decS (op :: t) = none) := by
            show _ = _; rw [HS.out, if_neg]
            intro h; simp [eqL, h.2] at he
          clear he
          go_wp2_with fail
          go_quiet (fail)
          go_wp2_with fail
          refine bodyPost_ret (v := .tuple #[.agg #[.int .u8 0, .int .u8 0, .int .u8 0, .int .u8 0, .int .i64 0], .int .i64 0]) ?_ rfl (rdPost_no HN.out ?_)
          · simp [results, Try.results11, go_sem, hc4, hc5, zc, zw4, r0, r1, r2, r3, r4]
          · repeat (with_reducible (first | exact HB5.out | refine below_drewN ?_ _ | refine Below.drew ?_ | refine Below.alloc ?_ ?_ _ | refine Below.setCell ?_ ?_ _ | exact Nat.le_refl _ | (simp; done) | (simp; omega)))
        · rw [he] at hEq
          have HN : Hid (decS (op :: t) = some (⟨op, gR t 0 q, gR t 1 q, gR t 2 q, imm⟩, en.length)) := by
            show _ = _; rw [HS.out, if_pos]
            exact ⟨hle, by simpa [eqL] using he⟩
          clear he
          go_wp2_with fail
          go_quiet (fail)
          go_wp2_with fail
          refine bodyPost_ret (v := .tuple #[.agg #[.int .u8 op, .int .u8 (gR t 0 q), .int .u8 (gR t 1 q), .int .u8 (gR t 2 q), .int .i64 imm], .int .i64 (en.length : Int)]) ?_ rfl (rdPost_yes HN.out rfl ?_)
          · simp [results, Try.results11, go_sem, hc4, hc5, zc, zw4, r0, r1, r2, r3, r4]
          · repeat (with_reducible (first | exact HB5.out | refine below_drewN ?_ _ | refine Below.drew ?_ | refine Below.alloc ?_ ?_ _ | refine Below.setCell ?_ ?_ _ | exact Nat.le_refl _ | (simp; done) | (simp; omega)))
      · have HN : Hid (decS (op :: t) = none) := by
          show _ = _; rw [HS.out, if_neg]
          intro h; exact hle h.1
        have hd : decide ((t.length : Int) + 1 < (en.length : Int)) = true := by simp; omega
        go_wp2_with fail
        go_quiet (fail)
        go_wp2_with fail
        refine bodyPost_ret (v := .tuple #[.agg #[.int .u8 0, .int .u8 0, .int .u8 0, .int .u8 0, .int .i64 0], .int .i64 0]) ?_ rfl (rdPost_no HN.out ?_)
        · simp [results, Try.results11, go_sem, hc4, hc5, zc, zw4, r0, r1, r2, r3, r4]
        · repeat (with_reducible (first | exact HB5.out | refine below_drewN ?_ _ | refine Below.drew ?_ | refine Below.alloc ?_ ?_ _ | refine Below.setCell ?_ ?_ _ | exact Nat.le_refl _ | (simp; done) | (simp; omega)))

theorem rdecode_any (v : Value) (l : List Int) (w : World) (hv : RdB w v l) (hB : isB l) : Calls Try.prog 11 #[v] w (RDPost l w) := by
  rcases hv.split with ⟨a, c, rfl, rfl⟩ | ⟨b, off, c, rfl, hp, hlc, hc9, hb, hcell⟩
  · exact rdecode_nil a c w
  · obtain ⟨op, t, rfl⟩ : ∃ k t, l = k :: t := by cases l with
      | nil => simp at hp
      | cons k t => exact ⟨k, t, rfl⟩
    have hop := hB op (List.mem_cons_self ..)
    have c0 : w.cell? ⟨b, off, none⟩ = some (.int .u8 op) := by simpa using hcell 0 (by simp)
    obtain ⟨r, i, lo, hi, ok, hs⟩ : ∃ r i lo hi ok, shp op = (r, i, lo, hi, ok) := ⟨_, _, _, _, _, rfl⟩
    obtain ⟨q, rfl, hq⟩ := shp_nat hop.1 hop.2 hs
    simp only [List.length_cons] at hlc
    cases ok
    · exact rdecode_bad b off c op t w q i false lo hi hop.1 hop.2 hs hq (.inl rfl) hb (by omega) c0
    · by_cases hlq : t.length < q
      · exact rdecode_bad b off c op t w q i true lo hi hop.1 hop.2 hs hq (.inr hlq) hb (by omega) c0
      · exact rdecode_main b off c op t w q i lo hi hop.1 hop.2 hs hq (by omega) hb hlc hc9 hv hB c0
end Go.Proofs.Ytlnaaoigggfefaa
