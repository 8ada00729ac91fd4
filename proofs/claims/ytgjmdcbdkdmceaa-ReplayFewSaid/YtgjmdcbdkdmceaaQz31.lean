/- A player's small questions: is a machine over, has it passed its mark; the next choice. -/
import Derived.Test.YtgjmdcbdkdmceaaQz30
import Derived.Lib.SliceRun
import Derived.Deep.AppendSrc
import Derived.Laws.AppendOwnNone
namespace Go.Proofs.Ytgjmdcbdkdmceaa.Mach
open Go.RowKit

theorem run_field_s0 (a0 a1 : Value) (oa : Option Addr) (n c : Nat) (a3 a4 a5 a6 : Value) (W : World) : (Instr.field 43 (.agg #[a0, a1, .slice oa n c, a3, a4, a5, a6]) 0).run Try.prog W = .ok a0 W := by
  simp [Instr.field, run_underlying Try.underlying43, part, asAgg, sizeOf, typeInfo]
theorem run_field_s4 (a0 a1 : Value) (oa : Option Addr) (n c : Nat) (a3 a4 a5 a6 : Value) (W : World) : (Instr.field 43 (.agg #[a0, a1, .slice oa n c, a3, a4, a5, a6]) 4).run Try.prog W = .ok a4 W := by
  simp [Instr.field, run_underlying Try.underlying43, part, asAgg, sizeOf, typeInfo]
theorem run_field_s5 (a0 a1 : Value) (oa : Option Addr) (n c : Nat) (a3 a4 a5 a6 : Value) (W : World) : (Instr.field 43 (.agg #[a0, a1, .slice oa n c, a3, a4, a5, a6]) 5).run Try.prog W = .ok a5 W := by
  simp [Instr.field, run_underlying Try.underlying43, part, asAgg, sizeOf, typeInfo]
theorem run_field_s6 (a0 a1 : Value) (oa : Option Addr) (n c : Nat) (a3 a4 a5 a6 : Value) (W : World) : (Instr.field 43 (.agg #[a0, a1, .slice oa n c, a3, a4, a5, a6]) 6).run Try.prog W = .ok a6 W := by
  simp [Instr.field, run_underlying Try.underlying43, part, asAgg, sizeOf, typeInfo]

/-- A status told in a block. -/
theorem st_blk (w : World) (en ex rd st mk at_ : Int) (sv : Value) (w1 : World) (hw1 : w1 = w.alloc (.cells #[.int .u8 en, .int .i64 ex, sv, .int .i64 rd, .int .i64 st, .int .i64 mk, .int .i64 at_] 43)) :
    w1.cell? ⟨w.heap.size, 0, none⟩ = some (.int .u8 en) ∧ w1.cell? ⟨w.heap.size, 4, none⟩ = some (.int .i64 st) ∧ w1.cell? ⟨w.heap.size, 5, none⟩ = some (.int .i64 mk) ∧ w1.cell? ⟨w.heap.size, 6, none⟩ = some (.int .i64 at_) ∧ Below w.heap.size w w1 := by
  have h : w1.heap[w.heap.size]? = some (.cells #[.int .u8 en, .int .i64 ex, sv, .int .i64 rd, .int .i64 st, .int .i64 mk, .int .i64 at_] 43 (0, 0)) := by rw [hw1]; exact heap_alloc_new _ _
  refine ⟨by simp [World.cell?, h], by simp [World.cell?, h], by simp [World.cell?, h], by simp [World.cell?, h], ?_⟩
  rw [hw1]; exact (Below.refl _ _).alloc (Nat.le_refl _) _

set_option maxHeartbeats 1000000 in
theorem over_any (en ex rd st mk at_ F : Int) (oa : Option Addr) (n c P : Nat) (w : World) (h6 : w.cell? ⟨P, 6, none⟩ = some (.int .i64 F)) (hP : P < w.heap.size) :
    Calls Try.prog 38 #[.pointer (some ⟨P, 0, none⟩), .agg #[.int .u8 en, .int .i64 ex, .slice oa n c, .int .i64 rd, .int .i64 st, .int .i64 mk, .int .i64 at_]] w fun e w' => e = .returned (.bool (en != 0 || decide (F ≤ st))) ∧ Below w.heap.size w w' := by
  obtain ⟨b, hb⟩ : ∃ b, b = (en != 0) := ⟨_, rfl⟩
  rw [← hb]
  go_enter Try.func38, Try.ntmps38
  go_wp2_with fail
  obtain ⟨w1, hw1⟩ : ∃ w1, w1 = w.alloc (.cells #[.int .u8 en, .int .i64 ex, .slice oa n c, .int .i64 rd, .int .i64 st, .int .i64 mk, .int .i64 at_] 43) := ⟨_, rfl⟩
  rw [← hw1]
  obtain ⟨c0, c4, c5, c6, hb1⟩ := st_blk w en ex rd st mk at_ _ w1 hw1
  have k6 := (hb1.cell (p := ⟨P, 6, none⟩) hP).trans h6
  have HB := Lib.hid hb1
  clear hb1 hw1 h6
  cases b
  · have h0 := hb.symm
    clear hb
    go_quiet (fail)
    go_wp2_with fail
    go_ret
    exact ⟨by simp, below_drewN HB.out _⟩
  · have h0 := hb.symm
    clear hb
    go_quiet (fail)
    go_wp2_with fail
    go_ret
    exact ⟨by simp, below_drewN HB.out _⟩
set_option maxHeartbeats 2000000 in
theorem mark_true (ex rd st mk : Int) (k : Nat) (oa : Option Addr) (n c P : Nat) (E : Env) (wv : Value) (w : World) (h0 : w.cell? ⟨P, 0, none⟩ = some wv) (hP : P < w.heap.size) (hw : RdW w wv E.ws) (hk : k < E.ws.length) (hop : (E.ws.getD k W.zero).op = 44) :
    Calls Try.prog 53 #[.pointer (some ⟨P, 0, none⟩), .agg #[.int .u8 0, .int .i64 ex, .slice oa n c, .int .i64 rd, .int .i64 st, .int .i64 mk, .int .i64 k]] w fun e w' => e = .returned (.bool true) ∧ Below w.heap.size w w' := by
  obtain ⟨b, o, vc, rfl, v0, hlb⟩ : ∃ b o c, wv = .slice (some ⟨b, o, none⟩) E.ws.length c ∧ w.cell? ⟨b, o + k * 5, none⟩ = some (.int .u8 44) ∧ b < w.heap.size := by
    rcases RdW.split hw with ⟨_, _, _, h2⟩ | ⟨b, o, c, he, _, _, _, hl, hc⟩
    · rw [h2] at hk; simp at hk
    · have h3 := (hc k hk).1
      rw [List.getD_eq_getElem?_getD, List.getElem?_eq_getElem hk] at hop
      simp only [Option.getD_some] at hop
      rw [hop] at h3
      exact ⟨b, o, c, he, h3, hl⟩
  have hl9 := Rd.le hw
  go_enter Try.func53, Try.ntmps53
  go_wp2_with fail
  obtain ⟨w1, hw1⟩ : ∃ w1, w1 = w.alloc (.cells #[.int .u8 0, .int .i64 ex, .slice oa n c, .int .i64 rd, .int .i64 st, .int .i64 mk, .int .i64 k] 43) := ⟨_, rfl⟩
  rw [← hw1]
  obtain ⟨c0, c4, c5, c6, hb1⟩ := st_blk w 0 ex rd st mk k _ w1 hw1
  have k0 := (hb1.cell (p := ⟨P, 0, none⟩) hP).trans h0
  have k1 := (hb1.cell (p := ⟨b, o + k * 5, none⟩) hlb).trans v0
  have HB := Lib.hid hb1
  clear hb1 hw1 h0 v0 hw hop
  have d1 : decide ((0 : Int) ≤ (k : Int)) = true := decide_eq_true (by omega)
  have d2 : decide ((k : Int) < (E.ws.length : Int)) = true := decide_eq_true (by omega)
  go_quiet (fail)
  go_wp2_with fail
  go_ret
  exact ⟨rfl, below_drewN HB.out _⟩
set_option maxHeartbeats 2000000 in
/-- A machine at a mark, or at its beginning, hasn't passed it. -/
theorem passed_no (ex rd st mk : Int) (k : Nat) (oa : Option Addr) (n c P : Nat) (E : Env) (wv : Value) (w : World) (h0 : w.cell? ⟨P, 0, none⟩ = some wv) (hP : P < w.heap.size) (hw : RdW w wv E.ws) (hk : mk ≠ 0 → k < E.ws.length) (hop : mk ≠ 0 → (E.ws.getD k W.zero).op = 44) (hst : mk = 0 → st = 0) :
    Calls Try.prog 37 #[.pointer (some ⟨P, 0, none⟩), .agg #[.int .u8 0, .int .i64 ex, .slice oa n c, .int .i64 rd, .int .i64 st, .int .i64 mk, .int .i64 k]] w fun e w' => e = .returned (.bool false) ∧ Below w.heap.size w w' := by
  obtain ⟨b, hb⟩ : ∃ b, b = (mk == 0) := ⟨_, rfl⟩
  obtain ⟨c0, c4, c5, c6, hb1⟩ := st_blk w 0 ex rd st mk k (.slice oa n c) _ rfl
  have HM := Lib.hid (fun h1 h2 => mark_true ex rd st mk k oa n c P E wv _ ((hb1.cell (p := ⟨P, 0, none⟩) hP).trans h0) (Nat.lt_of_lt_of_le hP hb1.size) (Rd.later hw hb1) h1 h2)
  have HB := Lib.hid hb1
  clear h0 hw hb1
  go_enter Try.func37, Try.ntmps37
  cases b
  · have hmk : mk ≠ 0 := by simpa using hb.symm
    have hb0 := hb.symm
    have HN := Lib.hid (HM.out (hk hmk) (hop hmk))
    clear hb hmk hk hop hst HM
    go_wp2_with fail
    refine HN.out.mono ?_
    rintro e w2 ⟨rfl, hb2⟩
    have HB2 := Lib.hid (HB.out.trans (hb2.mono HB.out.size))
    clear hb2 c0 c4 c5 c6
    go_wp2_with fail
    go_ret
    exact ⟨rfl, HB2.out⟩
  · have hmk : mk = 0 := by simpa using hb.symm
    have hst := hst hmk
    subst hst
    have hb0 := hb.symm
    clear hb hk hop HM
    go_wp2_with fail
    go_ret
    exact ⟨rfl, (Below.refl _ _).alloc (Nat.le_refl _) _⟩

/-- The next choice, and whose turn it is then. -/
theorem choice_any (X : PX) (V : PV) (turn : Nat) (work : Int) (P : Nat) (w : World) (base : Nat) (hp : w.heap[P]? = some (.cells (pC X V turn work) 78 (0, 0))) (hc : w.ownsRow base 3 1 V.cv X.cs.length (intsV X.cs)) (ht : X.cs.length = 0 ∨ turn < X.cs.length) (hl : X.cs.length * 8 ≤ 140737488355328) :
    Calls Try.prog 56 #[.pointer (some ⟨P, 0, none⟩)] w fun e w' => e = .returned (.int .i64 (choiceF X.cs turn).1) ∧ ∃ W, Below w.heap.size w W ∧ (w' = W.setCell ⟨P, 8, none⟩ (.int .i64 ((choiceF X.cs turn).2 : Nat)) ∨ (w' = W ∧ (choiceF X.cs turn).2 = turn)) := by
  obtain ⟨ca, cc, hcv⟩ := (Rd.of_own hc).shape
  have c7 : w.cell? ⟨P, 7, none⟩ = some (.slice ca X.cs.length cc) := by rw [← hcv]; simp [World.cell?, hp, pC]
  have c8 : w.cell? ⟨P, 8, none⟩ = some (.int .i64 turn) := by simp [World.cell?, hp, pC]
  have z8 : w.frozen? ⟨P, 8, none⟩ = false := by simp [World.frozen?, hp]
  have hlP : P < w.heap.size := (Array.getElem?_eq_some_iff.1 hp).1
  obtain ⟨n, hn⟩ : ∃ n, n = X.cs.length := ⟨_, rfl⟩
  rcases Nat.eq_zero_or_pos X.cs.length with h0 | h0
  · have e : choiceF X.cs turn = (0, turn) := if_pos h0
    rw [e]
    rw [h0] at c7
    clear hp hc ht hl hn h0 e hcv
    go_enter Try.func56, Try.ntmps56
    go_wp2_with fail
    go_ret
    exact ⟨rfl, _, Below.refl _ _, .inr ⟨rfl, trivial⟩⟩
  · have htl : turn < X.cs.length := by omega
    have e : choiceF X.cs turn = (X.cs.getD turn 0, (turn + 1) % X.cs.length) := if_neg (by omega)
    rw [e]
    obtain ⟨g, c, hv, hg, hgc, -, hcell⟩ := osplit hc h0
    have k0 : w.cell? ⟨g, turn, none⟩ = some (.int .i64 (X.cs.getD turn 0)) := by
      refine hcell turn _ ?_
      exact intsV_at htl
    rw [hcv] at hv
    simp only [Value.slice.injEq, true_and] at hv
    obtain ⟨rfl, rfl⟩ := hv
    obtain ⟨x, hx⟩ : ∃ x, x = X.cs.getD turn 0 := ⟨_, rfl⟩
    rw [← hx] at k0 ⊢
    rw [← hn] at c7 htl hl ⊢
    have hm : ((turn : Int) + 1) % (n : Int) = (((turn + 1) % n : Nat) : Int) := rfl
    have hn0 : (n : Int) ≠ 0 := by omega
    have hmod : (turn + 1) % n < n := Nat.mod_lt _ (by omega)
    obtain ⟨r, hr⟩ : ∃ r, r = (turn + 1) % n := ⟨_, rfl⟩
    rw [← hr] at hm hmod ⊢
    have hnn : ((n : Int) == 0) = false := by simpa using hn0
    clear hp hc ht hn h0 e hcv hcell hx hr
    go_enter Try.func56, Try.ntmps56
    go_wp2_with fail
    go_quiet (fail)
    go_wp2_with fail
    have hwr : wrap64 ((turn : Int) + 1) = (turn : Int) + 1 := by unfold wrap64; omega
    go_region_with (fail)
    all_goals
      simp [Exit.then]
      go_wp2_with fail
      go_ret
      exact ⟨rfl, _, below_drewN (Below.refl _ _) _, .inl rfl⟩
end Go.Proofs.Ytgjmdcbdkdmceaa.Mach

/- slices.Clone and slices.Contains at []int. -/
namespace Go.Proofs.Ytgjmdcbdkdmceaa.Mach
open Go.RowKit

theorem cinfoI : (Try.prog.info? 3).map (fun i => (i.zero, i.size, i.bytes)) = some (some (.int .i64 0), 1, 8) := by kernel_rfl
theorem emptyI (w : World) : (w.alloc (.cells #[] 3)).ownsRow w.heap.size 3 1 (.slice (some ⟨w.heap.size, 0, none⟩) 0 0) 0 [] :=
  ⟨rfl, .inr ⟨w.heap.size, 0, #[], rfl, Nat.le_refl _, heap_alloc_new _ _, Nat.le_refl _, Nat.zero_le _, rfl, rfl⟩⟩
set_option maxHeartbeats 4000000 in
theorem cloneI (v : Value) (n : Nat) (xs : List Value) (w : World) (hv : Rd w 1 v n xs) (h1 : ∀ u ∈ xs, u.oneCell' = true) (hl : n * 8 ≤ 140737488355328) :
    Calls Try.prog 35 #[v] w fun e w' => ∃ v', e = .returned v' ∧ w'.ownsRow w.heap.size 3 1 v' n xs ∧ Below w.heap.size w w' := by
  obtain ⟨im, mi0, mz0, mz1, mz2⟩ := info_partsV cinfoI
  have HV := Lib.hid hv
  have hnl := fun W a n c => Lib.run_eql_slice_nil (P := Try.prog) W 28 3 a n c 0 0 Try.underlying28
  rcases hv.2 with ⟨rfl, h0⟩ | ⟨a, c, rfl, hc1, hc2, hc3⟩
  · subst h0
    have hx : xs = [] := List.eq_nil_of_length_eq_zero (by simpa using hv.1)
    subst hx
    go_enter Try.func35, Try.ntmps35
    go_wp2_with fail
    go_ret
    exact ⟨_, rfl, ⟨rfl, .inl ⟨rfl, rfl⟩⟩, Below.refl _ _⟩
  · have b1 : 0 + n ≤ maxLen := by unfold maxLen; omega
    have b2 : (0 + n) * 8 ≤ 140737488355328 := by omega
    have HR : Hid (Rd (w.alloc (.cells #[] 3)) 1 _ n xs) := Rd.alloc HV.out _
    have H1 := Lib.hid h1
    clear hv hc1 hc2 hc3 h1
    go_enter Try.func35, Try.ntmps35
    go_wp2_with (at_builtin; refine wpList_append_own_rd _ rfl _ _ 28 rfl w.heap.size 3 im (.int .i64 0) 1 8 Try.underlying28 mi0 mz0 mz1 mz2 rfl (by decide) _ 0 [] rfl (emptyI w) _ n xs rfl HR.out H1.out b1 b2 (by simp) ?_; intro v' w' hown' hgrow')
    go_ret
    refine ⟨_, rfl, ?_, ((Below.refl _ _).alloc (Nat.le_refl _) _).grown hgrow' (by simp) (fun k hk => by cases hk; exact Nat.le_refl _)⟩
    have := hown'
    rw [Nat.zero_add, List.nil_append] at this
    exact this

/-! ### is it there? -/
def hasI (l : List Int) (x : Int) : Bool := l.any fun y => y == x
set_option maxHeartbeats 1000000 in
theorem index_int (v : Value) (l : List Int) (x : Int) (w : World) (hv : Rd w 1 v l.length (intsV l)) :
    Calls Try.prog 75 #[v, .int .i64 x] w fun e w' => (∃ r : Int, ((r = -1 ∧ hasI l x = false) ∨ (0 ≤ r ∧ hasI l x = true)) ∧ e = .returned (.int .i64 r)) ∧ w' = w := by
  have hsp := Rd.split hv (by omega)
  rcases hsp with ⟨a, c, rfl, h0, -⟩ | ⟨b, off, c, rfl, hp, hlc, hc9, hb, hcell⟩
  · have hl0 : l = [] := List.eq_nil_of_length_eq_zero h0
    subst hl0
    clear hv h0
    go_enter Try.func75, Try.ntmps75
    go_wp2_with fail
    refine wp_loop_rounds 1 ?_
    rw [rounds_succ]
    go_wp2_with fail
    go_ret
    exact ⟨⟨_, .inl ⟨rfl, rfl⟩, rfl⟩, rfl⟩
  have HC : Hid (∀ j, (hj : j < l.length) → w.cell? ⟨b, off + j, none⟩ = some (.int .i64 l[j])) := Lib.hid fun j hj => by
    have e : (intsV l)[j]? = some (.int .i64 l[j]) := by simp [intsV, hj]
    obtain ⟨i1, e1⟩ := List.getElem?_eq_some_iff.1 e
    rw [hcell j i1, e1]
  clear hcell hv
  go_enter Try.func75, Try.ntmps75
  go_wp2_with fail
  go_loopw [8] (fun i wr => ∃ j : Nat, j ≤ l.length ∧ i = .int .i64 j ∧ Hid (hasI (l.take j) x = false) ∧ w = wr) (fun i _ => l.length - (intOf i).toNat)
  case atStart => exact ⟨0, by omega, rfl, Lib.hid rfl, rfl⟩
  case round =>
    obtain ⟨j, hj, rfl, HA, rfl⟩ := hrel
    by_cases hlt : j < l.length
    · have d0 := HC.out j hlt
      obtain ⟨y, hy⟩ : ∃ y, l[j] = y := ⟨_, rfl⟩
      have HY := Lib.hid hy
      rw [hy] at d0
      clear hy
      obtain ⟨q, hq⟩ : ∃ q, q = (x == y) := ⟨_, rfl⟩
      cases q
      · have hq' := hq.symm
        have HQ := Lib.hid hq'
        clear hq
        go_wp2_with fail
        exact ⟨⟨j + 1, by omega, by go_num, Lib.hid (by
          show hasI _ _ = _
          have h1 := HA.out
          unfold hasI at h1 ⊢
          rw [List.take_succ_eq_append_getElem hlt, List.any_append, h1, HY.out]
          have := HQ.out
          simp at this ⊢
          exact fun e => this e.symm), by first | rfl | trivial⟩, by simp [intOf]; omega⟩
      · have hq' := hq.symm
        have HQ := Lib.hid hq'
        clear hq
        go_wp2_with fail
        go_ret
        refine ⟨⟨_, .inr ⟨?_, ?_⟩, rfl⟩, rfl⟩
        · omega
        · unfold hasI
          rw [List.any_eq_true]
          have := HQ.out
          exact ⟨l[j], List.getElem_mem hlt, by rw [HY.out]; simp at this ⊢; omega⟩
    · obtain rfl : j = l.length := by omega
      go_wp2_with fail
      go_ret
      exact ⟨⟨_, .inl ⟨rfl, by have := HA.out; rwa [List.take_length] at this⟩, rfl⟩, rfl⟩
theorem contains_int (v : Value) (l : List Int) (x : Int) (w : World) (hv : Rd w 1 v l.length (intsV l)) :
    Calls Try.prog 54 #[v, .int .i64 x] w fun e w' => e = .returned (.bool (hasI l x)) ∧ w' = w := by
  have HI := Lib.hid (index_int v l x w hv)
  obtain ⟨a, c, rfl⟩ := Rd.shape hv
  clear hv
  go_enter Try.func54, Try.ntmps54
  go_wp2_with fail
  refine HI.out.mono ?_
  rintro e w1 ⟨⟨r, hr, rfl⟩, rfl⟩
  rcases hr with ⟨rfl, h⟩ | ⟨h0, h⟩
  · go_wp2_with fail
    go_ret
    exact ⟨by rw [h]; rfl, rfl⟩
  · go_wp2_with fail
    go_ret
    exact ⟨by rw [h]; simp, rfl⟩
end Go.Proofs.Ytgjmdcbdkdmceaa.Mach
