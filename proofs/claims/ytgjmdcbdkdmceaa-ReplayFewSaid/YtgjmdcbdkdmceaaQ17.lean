/- The program's machine: its small functions. -/
import Derived.Test.YtgjmdcbdkdmceaaQHa
import Derived.Test.YtgjmdcbdkdmceaaQVa
import Derived.Deep.DeepCutAuto
import Derived.Deep.RegionHeld3
import Derived.Deep.RegionLaw
import Derived.Shelf.RegionOpenPlain
import Derived.StillTailTactics
import Derived.Deep.OwnRows
import Derived.Laws.OwnMore
namespace Go.Proofs.Ytgjmdcbdkdmceaa.Mach
open Go.RowKit

theorem addw_any (M o : Nat) (n : Int) (w : World) (hc : w.cell? ⟨M, o, none⟩ = some (.int .i64 n)) (hz : w.frozen? ⟨M, o, none⟩ = false) :
    Calls Try.prog 58 #[.pointer (some ⟨M, o, none⟩), .int .i64 1] w fun e w' => e = .returned (.int .i64 (wrap64 (n + 1))) ∧ w' = w.setCell ⟨M, o, none⟩ (.int .i64 (wrap64 (n + 1))) := by
  have hadd := run_call_add (P := Try.prog) Try.func77 (by kernel_rfl) (by kernel_rfl) (by kernel_rfl) .i64 (by kernel_rfl) (y := 1) (s := wrap64 (n + 1)) hc hz (by simp [go_sem]; first | done | (rw [IntKind.wrap_i64]; unfold wrap64; omega))
  go_enter Try.func58, Try.ntmps58
  go_wp2_with fail
  go_ret
  exact ⟨rfl, rfl⟩
theorem mslots_any (M eb eo n c : Nat) (i : Nat) (s : Int) (w : World) (hc : w.cell? ⟨M, 1, none⟩ = some (.slice (some ⟨eb, eo, none⟩) n c)) (hi : i < n) (hs : w.cell? ⟨eb, eo + i * 2 + 1, none⟩ = some (.int .i64 s)) :
    Calls Try.prog 57 #[.pointer (some ⟨M, 0, none⟩), .int .i64 i] w fun e w' => e = .returned (.tuple #[.int .i64 s, .bool (slotsOk s)]) ∧ w' = w := by
  go_enter Try.func57, Try.ntmps57
  go_wp2_with fail
  all_goals
    refine bodyPost_ret (v := .tuple #[.int .i64 s, .bool (slotsOk s)]) ?_ rfl ⟨rfl, rfl⟩
    have hn : ∀ x : Int, x < 0 → decide (0 ≤ x) = false := fun x h => decide_eq_false (by omega)
    simp_all [results, Try.results57, go_sem, slotsOk] <;> omega
/-- Where an array of the heap is, or the machine ends. -/
def ArrP (w w' : World) (M : Nat) (h : List Int) (a : Int) (e : Ending) : Prop :=
  ((1 ≤ a ∧ a ≤ h.length) ∧ e = .returned (.tuple #[.int .i64 (h.getD (a - 1).toNat 0), .bool true]) ∧ w' = w) ∨ (¬ (1 ≤ a ∧ a ≤ h.length) ∧ e = .returned (.tuple #[.int .i64 0, .bool false]) ∧ w' = w.setCell ⟨M, 8, none⟩ (.int .u8 8))
set_option maxHeartbeats 1000000 in
theorem marray_any (w : World) (M base : Nat) (hv : Value) (h : List Int) (e0 a : Int) (hc : w.cell? ⟨M, 6, none⟩ = some hv) (hrow : w.ownsRow base 2 1 hv h.length (intsV h)) (m8 : w.cell? ⟨M, 8, none⟩ = some (.int .u8 e0)) (z8 : w.frozen? ⟨M, 8, none⟩ = false) (hl : h.length ≤ 4096) :
    Calls Try.prog 98 #[.pointer (some ⟨M, 0, none⟩), .int .i64 a] w fun e w' => ArrP w w' M h a e := by
  obtain ⟨ha, hcp, rfl, -, -⟩ := oshape hrow
  have HEN := Lib.hid (ends_any M e0 8 w m8 z8)
  by_cases h1 : a < 1
  · have d1 : decide (a < 1) = true := decide_eq_true h1
    go_enter Try.func98, Try.ntmps98
    go_wp2_with fail
    refine HEN.out.mono ?_
    rintro e w1 ⟨rfl, rfl⟩
    go_wp2_with fail
    refine bodyPost_ret (v := .tuple #[.int .i64 0, .bool false]) (by simp [results, Try.results98, go_sem]) rfl ?_
    exact .inr ⟨by omega, rfl, rfl⟩
  by_cases h2 : (h.length : Int) < a
  · have d1 : decide (a < 1) = false := decide_eq_false h1
    have d2 : decide ((h.length : Int) < a) = true := decide_eq_true h2
    go_enter Try.func98, Try.ntmps98
    go_wp2_with fail
    refine HEN.out.mono ?_
    rintro e w1 ⟨rfl, rfl⟩
    go_wp2_with fail
    refine bodyPost_ret (v := .tuple #[.int .i64 0, .bool false]) (by simp [results, Try.results98, go_sem]) rfl ?_
    exact .inr ⟨by omega, rfl, rfl⟩
  have d1 : decide (a < 1) = false := decide_eq_false h1
  have d2 : decide ((h.length : Int) < a) = false := decide_eq_false h2
  obtain ⟨m, rfl⟩ : ∃ m : Nat, a = (m : Int) + 1 := ⟨(a - 1).toNat, by omega⟩
  obtain ⟨hb, hcp', hv', hlb, -, -, hj⟩ := osplit hrow (by omega)
  simp only [Value.slice.injEq, true_and] at hv'
  obtain ⟨rfl, rfl⟩ := hv'
  obtain ⟨g, hg⟩ : ∃ g, g = h.getD m 0 := ⟨_, rfl⟩
  have hm : w.cell? ⟨hb, m, none⟩ = some (.int .i64 g) := by rw [hg]; exact hj _ _ (intsV_at (by omega))
  have em : ((m : Int) + 1 - 1).toNat = m := by omega
  have em2 : (m : Int) + 1 - 1 = m := by omega
  have hml : (m : Int) < h.length := by omega
  have ew : IntKind.i64.wrap (m : Int) = m := by rw [IntKind.wrap_i64]; omega
  have HG := Lib.hid hg
  have HE := Lib.hid em
  clear hj hg em
  go_enter Try.func98, Try.ntmps98
  go_wp2_with fail
  refine bodyPost_ret (v := .tuple #[.int .i64 g, .bool true]) (by simp [results, Try.results98, go_sem]) rfl ?_
  exact .inl ⟨by omega, by rw [HE.out, ← HG.out], rfl⟩
/-- Where a cell of the heap is, or the machine ends. -/
def CellQ (w w' : World) (M : Nat) (hv : Value) (r : Int × Int) (e : Ending) : Prop :=
  (r.1 = 0 ∧ (∃ hb n c, hv = .slice (some ⟨hb, 0, none⟩) n c ∧ e = .returned (.pointer (some ⟨hb, r.2.toNat, none⟩))) ∧ w' = w) ∨ (r.1 ≠ 0 ∧ e = .returned (.pointer none) ∧ w' = w.setCell ⟨M, 8, none⟩ (.int .u8 r.1))
set_option maxHeartbeats 1000000 in
theorem mcell_any (w : World) (M base : Nat) (hv : Value) (h : List Int) (e0 a i : Int) (hc : w.cell? ⟨M, 6, none⟩ = some hv) (hrow : w.ownsRow base 2 1 hv h.length (intsV h)) (m8 : w.cell? ⟨M, 8, none⟩ = some (.int .u8 e0)) (z8 : w.frozen? ⟨M, 8, none⟩ = false) (hl : h.length ≤ 4096) :
    Calls Try.prog 97 #[.pointer (some ⟨M, 0, none⟩), .int .i64 a, .int .i64 i] w fun e w' => CellQ w w' M hv (cellF h a i) e := by
  have HAR := Lib.hid (marray_any w M base hv h e0 a hc hrow m8 z8 hl)
  by_cases h0 : 1 ≤ a ∧ a ≤ h.length
  · obtain ⟨h1, h2⟩ := h0
    obtain ⟨m, rfl⟩ : ∃ m : Nat, a = (m : Int) + 1 := ⟨(a - 1).toNat, by omega⟩
    obtain ⟨hb, hcp, hv', hlb, -, -, hj⟩ := osplit hrow (by omega)
    subst hv'
    have em : ((m : Int) + 1 - 1).toNat = m := by omega
    obtain ⟨g, hg⟩ : ∃ g, g = h.getD m 0 := ⟨_, rfl⟩
    have HAQ : Hid (Calls Try.prog 98 #[.pointer (some ⟨M, 0, none⟩), .int .i64 ((m : Int) + 1)] w fun e w' => e = .returned (.tuple #[.int .i64 g, .bool true]) ∧ w' = w) := by
      refine HAR.out.mono ?_
      rintro e w' (⟨_, h3, h4⟩ | ⟨h3, _⟩)
      · rw [em, ← hg] at h3; exact ⟨h3, h4⟩
      · exact absurd ⟨h1, h2⟩ h3
    have HGE := Lib.hid (show h.getD ((m : Int) + 1 - 1).toNat 0 = g by rw [em, hg])
    have HEN := fun x => Lib.hid (ends_any M e0 x w m8 z8)
    have n1 : ¬ ((m : Int) + 1 < 1) := by omega
    have n2 : ¬ ((h.length : Int) < (m : Int) + 1) := by omega
    clear HAR hg em hj
    by_cases h3 : i < 0
    · have d3 : decide (i < 0) = true := decide_eq_true h3
      rw [cellF_3 n1 n2 (.inl h3)]
      go_enter Try.func97, Try.ntmps97
      go_wp2_with fail
      refine HAQ.out.mono ?_
      rintro e w1 ⟨rfl, hw⟩
      have hw := hw.symm
      subst hw
      go_wp2_with fail
      refine (HEN 3).out.mono ?_
      rintro e w1 ⟨rfl, rfl⟩
      go_wp2_with fail
      go_ret
      exact .inr ⟨by decide, rfl, rfl⟩
    have d3 : decide (i < 0) = false := decide_eq_false h3
    by_cases h4 : g ≤ i
    · have d4 : decide (g ≤ i) = true := decide_eq_true h4
      rw [cellF_3 n1 n2 (.inr (by rw [HGE.out]; exact h4))]
      go_enter Try.func97, Try.ntmps97
      go_wp2_with fail
      refine HAQ.out.mono ?_
      rintro e w1 ⟨rfl, hw⟩
      have hw := hw.symm
      subst hw
      go_wp2_with fail
      refine (HEN 3).out.mono ?_
      rintro e w1 ⟨rfl, rfl⟩
      go_wp2_with fail
      go_ret
      exact .inr ⟨by decide, rfl, rfl⟩
    have d4 : decide (g ≤ i) = false := decide_eq_false h4
    have h34 : ¬ (i < 0 ∨ h.getD ((m : Int) + 1 - 1).toNat 0 ≤ i) := by rw [HGE.out]; omega
    have es : IntKind.i64.wrap ((h.length : Int) - ((m : Int) + 1)) = (h.length : Int) - ((m : Int) + 1) := by rw [IntKind.wrap_i64]; omega
    by_cases h5 : (h.length : Int) - ((m : Int) + 1) ≤ i
    · have d5 : decide ((h.length : Int) - ((m : Int) + 1) ≤ i) = true := decide_eq_true h5
      rw [cellF_4 n1 n2 h34 h5]
      clear h34
      go_enter Try.func97, Try.ntmps97
      go_wp2_with fail
      refine HAQ.out.mono ?_
      rintro e w1 ⟨rfl, hw⟩
      have hw := hw.symm
      subst hw
      go_wp2_with fail
      refine (HEN 8).out.mono ?_
      rintro e w1 ⟨rfl, rfl⟩
      go_wp2_with fail
      go_ret
      exact .inr ⟨by decide, rfl, rfl⟩
    have d5 : decide ((h.length : Int) - ((m : Int) + 1) ≤ i) = false := decide_eq_false h5
    rw [cellF_5 n1 n2 h34 h5]
    clear h34
    obtain ⟨ni, rfl⟩ : ∃ n : Nat, i = n := ⟨i.toNat, by omega⟩
    have ew : IntKind.i64.wrap ((m : Int) + 1 + ni) = (m : Int) + 1 + ni := by rw [IntKind.wrap_i64]; omega
    have hlt : (m : Int) + 1 + ni < h.length := by omega
    have et : ((m : Int) + 1 + ni).toNat = m + 1 + ni := by omega
    go_enter Try.func97, Try.ntmps97
    go_wp2_with fail
    refine HAQ.out.mono ?_
    rintro e w1 ⟨rfl, hw⟩
    have hw := hw.symm
    subst hw
    go_wp2_with fail
    go_ret
    exact .inl ⟨rfl, ⟨hb, _, _, rfl, by rw [et]; rfl⟩, rfl⟩
  · have hF : cellF h a i = (8, 0) := by
      by_cases h1 : a < 1
      · exact cellF_1 h1
      · exact cellF_2 (by omega)
    rw [hF]
    have HN := Lib.hid h0
    clear hF h0
    go_enter Try.func97, Try.ntmps97
    go_wp2_with fail
    refine HAR.out.mono ?_
    rintro e w1 (⟨h1, _⟩ | ⟨_, rfl, rfl⟩)
    · exact absurd h1 HN.out
    · go_wp2_with fail
      go_ret
      exact .inr ⟨by decide, rfl, rfl⟩
/-- Where a slot is, or the machine ends. -/
def SlotQ (w w' : World) (M : Nat) (sv : Value) (k : Nat) (n : Int) (e : Ending) : Prop :=
  ((n < k) ∧ (∃ sb c, sv = .slice (some ⟨sb, 0, none⟩) k c ∧ e = .returned (.pointer (some ⟨sb, n.toNat, none⟩))) ∧ w' = w) ∨ (¬ n < k ∧ e = .returned (.pointer none) ∧ w' = w.setCell ⟨M, 8, none⟩ (.int .u8 8))
theorem mslot_any (w : World) (M F base : Nat) (sv : Value) (ss : List Int) (e0 : Int) (n : Nat) (hc : w.cell? ⟨F, 18, none⟩ = some sv) (hrow : w.ownsRow base 2 1 sv ss.length (intsV ss)) (m8 : w.cell? ⟨M, 8, none⟩ = some (.int .u8 e0)) (z8 : w.frozen? ⟨M, 8, none⟩ = false) :
    Calls Try.prog 80 #[.pointer (some ⟨M, 0, none⟩), .pointer (some ⟨F, 0, none⟩), .int .i64 n] w fun e w' => SlotQ w w' M sv ss.length n e := by
  by_cases h1 : n < ss.length
  · obtain ⟨sb, c, rfl, hlb, -, -, hj⟩ := osplit hrow (by omega)
    have d1 : decide ((ss.length : Int) ≤ (n : Int)) = false := decide_eq_false (by omega)
    have hn : (n : Int) < ss.length := by omega
    have hn0 : w.cell? ⟨sb, n, none⟩ = some (.int .i64 (ss.getD n 0)) := hj _ _ (intsV_at h1)
    clear hj
    go_enter Try.func80, Try.ntmps80
    go_wp2_with fail
    go_ret
    exact .inl ⟨hn, ⟨sb, c, rfl, by rw [Int.toNat_natCast]; rfl⟩, rfl⟩
  · obtain ⟨a, c, rfl, -, -⟩ := oshape hrow
    have d1 : decide ((ss.length : Int) ≤ (n : Int)) = true := decide_eq_true (by omega)
    have HEN := Lib.hid (ends_any M e0 8 w m8 z8)
    go_enter Try.func80, Try.ntmps80
    go_wp2_with fail
    refine HEN.out.mono ?_
    rintro e w1 ⟨rfl, rfl⟩
    go_wp2_with fail
    go_ret
    exact .inr ⟨by omega, rfl, rfl⟩
/-- A call's block, at its beginning. -/
def FrP (w : World) (E : Env) (fn : Int) (args : List Int) (av : Value) (dst : Int) (e : Ending) (w' : World) : Prop :=
  ∃ F sv, e = .returned (.pointer (some ⟨F, 0, none⟩)) ∧ w.heap.size ≤ F ∧ Below w.heap.size w w' ∧ w'.heap[F]? = some (.cells (fC (newFr E fn args dst) ⟨F, sv, av, .slice none 0 0⟩) 111 (0, 0)) ∧
    w'.ownsRow w.heap.size 2 1 sv (slotsN (E.ent fn).2) (intsV (List.replicate (slotsN (E.ent fn).2) 0))
theorem mframe_any (w : World) (t : Nat → Nat) (M : Nat) (E : Env) (wv ev iv : Value) (hE : EnvAt w t wv ev iv E) (hc : w.cell? ⟨M, 1, none⟩ = some ev) (hM : M < w.heap.size) (fn : Nat) (hfn : fn < E.es.length) (args : List Int) (aa : Option Addr) (an ac : Nat) (dst : Int) :
    Calls Try.prog 41 #[.pointer (some ⟨M, 0, none⟩), .int .i64 fn, .slice aa an ac, .int .u8 dst] w fun e w' => FrP w E fn args (.slice aa an ac) dst e w' := by
  obtain ⟨eb, eo, ec, rfl, h1, h2, hleb, -⟩ := hE.ent (fn := (fn : Int)) (by omega) (by omega)
  rw [Int.toNat_natCast] at h1 h2
  go_enter Try.func41, Try.ntmps41
  go_wp2_with fail
  obtain ⟨w1, hw1⟩ : ∃ w1, w1 = w.alloc (.cells (fC (newFr E fn args dst) ⟨w.heap.size, .slice none 0 0, .slice aa an ac, .slice none 0 0⟩) 111) := ⟨_, rfl⟩
  have hw1' := hw1
  simp only [fC, fL, newFr, intsV, List.replicate, List.map_cons, List.map_nil, List.cons_append, List.nil_append] at hw1'
  rw [← hw1']
  have hB : Below w.heap.size w w1 := by rw [hw1]; exact (Below.refl _ _).alloc (Nat.le_refl _) _
  have hf1 : w1.heap[w.heap.size]? = some (.cells (fC (newFr E fn args dst) ⟨w.heap.size, .slice none 0 0, .slice aa an ac, .slice none 0 0⟩) 111 (0, 0)) := by rw [hw1]; exact heap_alloc_new _ _
  have n1 : w1.cell? ⟨M, 1, none⟩ = some (.slice (some ⟨eb, eo, none⟩) E.es.length ec) := (hB.cell (p := ⟨M, 1, none⟩) hM).trans hc
  have n2 : w1.cell? ⟨eb, eo + fn * 2 + 1, none⟩ = some (.int .i64 (E.ent fn).2) := (hB.cell (p := ⟨eb, eo + fn * 2 + 1, none⟩) hleb).trans h2
  have hl1 : w.heap.size < w1.heap.size := (Array.getElem?_eq_some_iff.1 hf1).1
  have c18 : w1.cell? ⟨w.heap.size, 18, none⟩ = some (.slice none 0 0) := by simp [World.cell?, hf1]; rfl
  have z18 : w1.frozen? ⟨w.heap.size, 18, none⟩ = false := by simp [World.frozen?, hf1]
  have HF := Lib.hid hf1
  have HB := Lib.hid hB
  clear hw1 hw1' hf1 hB h1 h2 hc hE
  refine (mslots_any M eb eo E.es.length ec fn (E.ent fn).2 w1 n1 hfn n2).mono ?_
  rintro e w2 ⟨rfl, hw2⟩
  have hw2 := hw2.symm
  subst hw2
  cases hk : slotsOk (E.ent fn).2
  · have HK := Lib.hid hk
    clear hk
    go_wp2_with fail
    go_ret
    have e0 : slotsN (E.ent fn).2 = 0 := by unfold slotsN; rw [HK.out]; rfl
    refine ⟨_, .slice none 0 0, rfl, Nat.le_refl _, HB.out, HF.out, ?_⟩
    rw [e0]
    exact World.ownsRow_nil _ _ _ _
  · obtain ⟨k, hkn⟩ : ∃ k : Nat, (E.ent fn).2 = k := ⟨(E.ent fn).2.toNat, by unfold slotsOk at hk; simp at hk; omega⟩
    have hk60 : k ≤ 60000 := by rw [hkn] at hk; unfold slotsOk at hk; simp at hk; omega
    have e0 : slotsN (E.ent fn).2 = k := by unfold slotsN; rw [hk, if_pos rfl, hkn, Int.toNat_natCast]
    have hmk : ∀ W : World, (Instr.makeSlice 27 (.int .i64 k) (.int .i64 k)).run Try.prog W = .ok (.slice (some ⟨W.heap.size, 0, none⟩) k k) (W.alloc (.cells (madeCells #[.int .i64 0] k) 2)) := fun W => run_make_row' (P := Try.prog) 27 2 (.int .i64 0) 8 Try.underlying27 info_i64' rfl .i64 .i64 k (by omega) (by omega) W
    rw [hkn]
    have HE := Lib.hid e0
    clear hkn hk e0
    go_wp2_with fail
    go_ret
    have hz : (w1.setCell ⟨w.heap.size, 18, none⟩ (.slice (some ⟨w1.heap.size, 0, none⟩) k k)).heap.size = w1.heap.size := by simp
    refine ⟨w.heap.size, .slice (some ⟨w1.heap.size, 0, none⟩) k k, rfl, Nat.le_refl _, ?_, ?_, ?_⟩
    · exact (HB.out.setCell (Nat.le_refl _) _).alloc (by rw [hz]; exact HB.out.size) _
    · rw [Below.heap_alloc _ _ _ (by rw [hz]; exact hl1), heap_set HF.out]
      rfl
    · have h3 := made_row (base := w.heap.size) (w1.setCell ⟨w.heap.size, 18, none⟩ (.slice (some ⟨w1.heap.size, 0, none⟩) k k)) k (by rw [hz]; omega) (by unfold maxLen; omega)
      rw [hz] at h3
      rw [HE.out]; exact h3
end Go.Proofs.Ytgjmdcbdkdmceaa.Mach

/- The program's machine: a call's block becomes the machine's. -/
namespace Go.Proofs.Ytgjmdcbdkdmceaa.Mach
open Go.RowKit

theorem info_P' : (Try.prog.info? 90).map (fun i => (i.zero, i.size, i.bytes)) = some (some (.pointer none), 1, 8) := by kernel_rfl
theorem info_P : ∃ x, Try.prog.info? 90 = some x ∧ x.zero = some (.pointer none) ∧ x.size = 1 ∧ x.bytes = 8 := parts' info_P'
theorem slotsN_le (n : Int) : slotsN n ≤ 60000 := by
  unfold slotsN
  split
  · rename_i h
    simp [slotsOk] at h
    omega
  · omega
section
variable {w w' : World} {t : Nat → Nat} {base M : Nat} {E : Env} {V : MV} {cl : List (Fr × FV)} {s : St}
theorem MRep.newCall (h : MRep w t base M E V cl s) {args : List Int} {av : Value} (har : Row w t base 2 1 av args.length (intsV args) (9 + 4 * cl.length)) {fn dst : Int} {e : Ending} (hF : FrP w E fn args av dst e w') :
    ∃ F sv t', e = .returned (.pointer (some ⟨F, 0, none⟩)) ∧ Below w.heap.size w w' ∧ MRep w' t' base M E V cl s ∧ Fx w w' t t' ∧ PRep w' t' base cl.length (newFr E fn args dst, ⟨F, sv, av, .slice none 0 0⟩) := by
  obtain ⟨F, sv, he, hFw, hb, hf, hsv⟩ := hF
  have hsz := hb.size
  have hFl : F < w'.heap.size := (Array.getElem?_eq_some_iff.1 hf).1
  have hsb : ∀ k, sv.ownBlock = some k → w.heap.size ≤ k ∧ k < w'.heap.size ∧ k ≠ F := fun k hk => by
    obtain ⟨h1, cur, h2⟩ := oblk hsv k hk
    exact ⟨h1, (Array.getElem?_eq_some_iff.1 h2).1, fun e => by subst e; rw [hf] at h2; cases h2⟩
  obtain ⟨t', ht'⟩ : ∃ t', t' = updV (upd t F (7 + 4 * cl.length)) sv (8 + 4 * cl.length) := ⟨_, rfl⟩
  have hne : ∀ k, sv.ownBlock ≠ some k → k ≠ F → t' k = t k := fun k h1 h2 => by
    rw [ht']; unfold updV
    cases hv : sv.ownBlock with
    | none => exact upd_ne h2
    | some g => show upd (upd t F _) g _ k = t k; rw [upd_ne (fun e => h1 (by rw [hv, e])), upd_ne h2]
  have hFt : t' F = 7 + 4 * cl.length := by
    rw [ht']; unfold updV
    cases hv : sv.ownBlock with
    | none => exact upd_at _ _ _
    | some g => show upd (upd t F _) g _ F = _; rw [upd_ne (fun e => (hsb g hv).2.2 e.symm), upd_at]
  have h1 : ∀ k, k < w.heap.size → t' k = t k := fun k hk => hne k (fun e => by have := (hsb k e).1; omega) (by omega)
  have h2 : ∀ k, t' k ≠ 0 → k < w'.heap.size := fun k hk => by
    by_cases e1 : sv.ownBlock = some k
    · exact (hsb k e1).2.1
    by_cases e2 : k = F
    · rw [e2]; exact hFl
    · rw [hne k e1 e2] at hk; exact Nat.lt_of_lt_of_le (h.lt k hk) hsz
  obtain ⟨h3, h4⟩ := h.claimT hb h1 h2
  refine ⟨F, sv, t', he, hb, h3, h4, ⟨hf, hFt, by simp [newFr], ⟨?_, ?_⟩, Row.claimT har hb h1, Row.nil _ _ _ _ _ _⟩⟩
  · have e : (newFr E fn args dst).slots.length = slotsN (E.ent fn).2 := by simp [newFr]
    rw [e]
    exact obase hsv fun k hk => Nat.le_trans h.bs (hsb k hk).1
  · rw [ht']; exact updV_self _ _ _
/-- The new call's block stands behind the others. -/
theorem MRep.pushed {w8 : World} {o : Obj} {p : Fr × FV} {v' : Value} (h : MRep w t base M E V cl s) (hp : PRep w t base cl.length p)
    (hg : (w.alloc o).grownBy w8 V.ov.ownBlock) (hf : ∀ g, v'.ownBlock = some g → (w.alloc o).heap.size ≤ g ∨ V.ov.ownBlock = some g) (ho : w8.ownsRow base 90 1 v' (cl.length + 1) (ptrC cl ++ [.pointer (some ⟨p.2.blk, 0, none⟩)])) :
    MRep (w8.setCell ⟨M, 5, none⟩ v') (updV t v' 4) base M E { V with ov := v' } (cl ++ [p]) { s with opn := s.opn ++ [p.1] } ∧ Fx w (w8.setCell ⟨M, 5, none⟩ v') t (updV t v' 4) := by
  have T : Trn w w8 t (updV t v' 4) 4 base := Trn.app o hg h.ho.tag hf ho (by omega) h.bs
  exact h.push T ⟨by rw [ptrC_snoc]; exact ho, updV_self _ _ _⟩ (hp.trn T (by omega))
end
end Go.Proofs.Ytgjmdcbdkdmceaa.Mach
