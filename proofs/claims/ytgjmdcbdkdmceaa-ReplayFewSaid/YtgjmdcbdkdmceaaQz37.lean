/- The document's value of an operation (package teaselref04): what it computes. -/
import Derived.Test.YtgjmdcbdkdmceaaQ13
import Derived.Test.YtgjmdcbdkdmceaaQ14
import Derived.Test.YtgjmdcbdkdmceaaProg
import Derived.ProofKit
import Derived.KernelRfl
import Derived.Below
import Derived.Test.YtgjmdcbdkdmceaaQ18
import Derived.Deep.QuietTactic
import Derived.BigQuiet
import Derived.Test.YtgjmdcbdkdmceaaQz36
import Derived.OpenShut
import Derived.Deep.DeepCutAuto
import Derived.Deep.RegionHeld3
import Derived.Deep.RegionLaw
import Derived.Shelf.RegionOpenPlain
import Derived.StillTailTactics
import Derived.Test.YtgjmdcbdkdmceaaQ16
namespace Go.Proofs.Ytgjmdcbdkdmceaa
open Go.RowKit

set_option maxHeartbeats 1000000 in
theorem refValue_any (op a b : Int) (ha : -9223372036854775808 ≤ a ∧ a ≤ 9223372036854775807) (w : World) :
   Calls Try.prog 88 #[.int .u8 op, .int .i64 a, .int .i64 b] w fun e w' => e = .returned (.tuple #[.int .i64 (valF op a b).1, .int .u8 (valF op a b).2]) ∧ w' = w := by
  have HA := Lib.hid ha
  clear ha
  go_enter Try.func88, Try.ntmps88
  go_wp2
  all_goals first | (exfalso; simp_all; done) | refine bodyPost_ret (v := .tuple #[.int .i64 (valF op a b).1, .int .u8 (valF op a b).2]) ?_ rfl ⟨rfl, rfl⟩
  all_goals go_light
  all_goals try (simp [results, Try.results88, go_sem, valF, b01, shiftN, *]; done)
  all_goals
    have ht := tmod_eq a b HA.out (by intro hb; simp_all)
    simp [results, Try.results88, go_sem, valF, *]
end Go.Proofs.Ytgjmdcbdkdmceaa

/- Walks: equality of bytes; the reference's names, form. -/
namespace Go.Proofs.Ytgjmdcbdkdmceaa
open Go.RowKit

set_option maxHeartbeats 1000000 in
theorem sameBytes_any (v1 v2 : Value) (l m : List Int) (w : World) (h1 : RdB w v1 l) (h2 : RdB w v2 m) (b1 : isB l) (b2 : isB m) :
    Calls Try.prog 19 #[v1, v2] w fun e w' => e = .returned (.bool (eqL l m)) ∧ w = w' := by
  have k1 := run_convert_rdB (P := Try.prog) h1 Try.underlying24 Try.underlying5 (dst := 9) Try.underlying9
  have k2 := run_convert_rdB (P := Try.prog) h2 Try.underlying24 Try.underlying5 (dst := 9) Try.underlying9
  have HE : Hid _ := eqL_str b1 b2
  clear h1 h2 b1 b2
  go_enter Try.func19, Try.ntmps19
  go_wp2
  go_ret
  exact ⟨ret_bool HE.out, rfl⟩

/-- What the reference says that an operation names. -/
def nmR (n : Int) : Int := if (shp n).2.2.2.2 then (shp n).1 else -1
def nmI (n : Int) : Bool := (shp n).2.2.2.2 && (shp n).2.1

def regT : List Int := [1, 2, 1, 1, 3, 3, 2, 1, 1, 1, 1, 1, 1, 1, 0, 0, 1, 1, 1]
def immT : List Bool := [true, false, true, true, false, false, false, true, false, false, false, true, false, false, true, true, true, false, true]
def nmT (n : Int) : Int × Bool :=
  if 1 ≤ n ∧ n ≤ 16 then (3, false) else if 19 ≤ n ∧ n ≤ 21 then (2, false) else if n < 30 ∨ 48 < n then (-1, false) else (regT.getD (n - 30).toNat 0, immT.getD (n - 30).toNat false)
theorem nm_tab : ∀ k : Fin 256, (nmR ((k.val : Nat) : Int), nmI ((k.val : Nat) : Int)) = nmT ((k.val : Nat) : Int) := by decide +kernel
theorem nm_is {n : Int} (h0 : 0 ≤ n) (h1 : n ≤ 255) {r : Int} {i : Bool} (h : nmT n = (r, i)) : Ending.returned (.tuple #[.int .i64 r, .bool i]) = .returned (.tuple #[.int .i64 (nmR n), .bool (nmI n)]) := by
  obtain ⟨k, rfl⟩ := Int.eq_ofNat_of_zero_le h0
  have := nm_tab ⟨k, by omega⟩
  simp only [h, Prod.mk.injEq] at this
  rw [this.1, this.2]

set_option maxHeartbeats 2000000 in
theorem names_low (n : Int) (w : World) (h0 : 0 ≤ n) (h1 : n ≤ 255) (h : n < 30 ∨ 48 < n) : Calls Try.prog 101 #[.int .u8 n] w fun e w' => e = .returned (.tuple #[.int .i64 (nmR n), .bool (nmI n)]) ∧ Below w.heap.size w w' := by
  have hcase : (1 ≤ n ∧ n ≤ 16) ∨ (n < 1) ∨ (16 < n ∧ n < 19) ∨ (19 ≤ n ∧ n ≤ 21) ∨ (21 < n ∧ n < 30) ∨ 48 < n := by omega
  have F := Lib.hid (fun (r : Int) (i : Bool) (h : nmT n = (r, i)) => nm_is h0 h1 h)
  clear h h0 h1
  rcases hcase with ⟨a, b⟩ | a | ⟨a, b⟩ | ⟨a, b⟩ | ⟨a, b⟩ | a
  all_goals
    go_enter Try.func101, Try.ntmps101
    go_wp2
    go_ret2
    go_light
    refine ⟨F.out _ _ ?_, Below.refl _ _⟩
    unfold nmT
    repeat (first | rw [if_pos (by omega)] | rw [if_neg (by omega)])

set_option maxHeartbeats 4000000 in
theorem names_high (n : Int) (w : World) (h0 : 30 ≤ n) (h1 : n ≤ 48) : Calls Try.prog 101 #[.int .u8 n] w fun e w' => e = .returned (.tuple #[.int .i64 (nmR n), .bool (nmI n)]) ∧ Below w.heap.size w w' := by
  have F := Lib.hid (fun (r : Int) (i : Bool) (h : nmT n = (r, i)) => nm_is (n := n) (by omega) (by omega) h)
  have hT : Hid (nmT n = (regT.getD (n - 30).toNat 0, immT.getD (n - 30).toNat false)) := by
    show _ = _; unfold nmT; rw [if_neg (by omega), if_neg (by omega), if_neg (by omega)]
  have c1 : ∀ A B : Obj, A = .cells (regT.map (Value.int .i64)).toArray 3 → ((w.alloc A).alloc B).cell? ⟨w.heap.size, (n - 30).toNat, none⟩ = some (.int .i64 (regT.getD (n - 30).toNat 0)) := by
    intro A B hA
    have hk : (n - 30).toNat < 19 := by omega
    rw [World.cell?_alloc_past _ _ _ (by simp), hA, World.cell?_alloc_at _ _ _ _ rfl]
    generalize (n - 30).toNat = k at *
    have : k < regT.length := hk
    simp [this]
  have c2 : ∀ A B : Obj, B = .cells (immT.map Value.bool).toArray 4 → ((w.alloc A).alloc B).cell? ⟨w.heap.size + 1, (n - 30).toNat, none⟩ = some (.bool (immT.getD (n - 30).toNat false)) := by
    intro A B hB
    have hk : (n - 30).toNat < 19 := by omega
    rw [hB, World.cell?_alloc_at _ _ _ _ (by simp)]
    generalize (n - 30).toNat = k at *
    have : k < immT.length := hk
    simp [this]
  have d1 := c1 _ (.cells (immT.map Value.bool).toArray 4) rfl
  have d2 := c2 (.cells (regT.map (Value.int .i64)).toArray 3) _ rfl
  simp only [regT, immT, List.map_cons, List.map_nil] at d1 d2
  generalize hX : List.getD [1, 2, 1, 1, 3, 3, 2, 1, 1, 1, 1, 1, 1, 1, 0, 0, 1, 1, (1 : Int)] (n - 30).toNat 0 = X at d1
  generalize hY : List.getD [true, false, true, true, false, false, false, true, false, false, false, true, false, false, true, true, true, false, true] (n - 30).toNat false = Y at d2
  have HXY : Hid (nmT n = (X, Y)) := by show _ = _; rw [hT.out, ← hX, ← hY]; rfl
  clear c1 c2 hX hY hT
  have e1 : ¬ n ≤ 16 := by omega
  have e2 : ¬ n ≤ 21 := by omega
  have e3 : ¬ n < 30 := by omega
  have e4 : ¬ 48 < n := by omega
  have e5 : n - 30 < 19 := by omega
  have e6 : 0 ≤ n - 30 := by omega
  go_enter Try.func101, Try.ntmps101
  go_wp2
  go_quiet (fail)
  go_wp2
  go_ret2
  exact ⟨F.out _ _ HXY.out, Go.below_drewN (((Below.refl _ _).alloc (Nat.le_refl _) _).alloc (by simp) _) _⟩

theorem names_any (n : Int) (w : World) (h0 : 0 ≤ n) (h1 : n ≤ 255) : Calls Try.prog 101 #[.int .u8 n] w fun e w' => e = .returned (.tuple #[.int .i64 (nmR n), .bool (nmI n)]) ∧ Below w.heap.size w w' := by
  by_cases h : n < 30 ∨ 48 < n
  · exact names_low n w h0 h1 h
  · exact names_high n w (by omega) (by omega)

/-- What an operation's number may be. -/
theorem shp_imm : ∀ k : Fin 256, (shp ((k.val : Nat) : Int)).2.1 = true → (((k.val : Nat) : Int) = 30 ∧ (shp ((k.val : Nat) : Int)).2.2.1 = minI ∧ (shp ((k.val : Nat) : Int)).2.2.2.1 = maxI) ∨ ((((k.val : Nat) : Int) = 32 ∨ ((k.val : Nat) : Int) = 33) ∧ (shp ((k.val : Nat) : Int)).2.2.1 = 0 ∧ (shp ((k.val : Nat) : Int)).2.2.2.1 = 59999) ∨ (((k.val : Nat) : Int) = 37 ∧ (shp ((k.val : Nat) : Int)).2.2.1 = 1 ∧ (shp ((k.val : Nat) : Int)).2.2.2.1 = 256) ∨ (((k.val : Nat) : Int) = 48 ∧ (shp ((k.val : Nat) : Int)).2.2.1 = 0 ∧ (shp ((k.val : Nat) : Int)).2.2.2.1 = 5) ∨ ((((k.val : Nat) : Int) = 41 ∨ ((k.val : Nat) : Int) = 46 ∨ ((k.val : Nat) : Int) = 44 ∨ ((k.val : Nat) : Int) = 45) ∧ (shp ((k.val : Nat) : Int)).2.2.1 = 0 ∧ (shp ((k.val : Nat) : Int)).2.2.2.1 = maxI) := by decide +kernel
theorem shp_r : ∀ k : Fin 256, (0 ≤ (shp ((k.val : Nat) : Int)).1 ∧ (shp ((k.val : Nat) : Int)).1 ≤ 3) ∧ ((shp ((k.val : Nat) : Int)).2.2.2.2 = false → (shp ((k.val : Nat) : Int)).1 = 0 ∧ (shp ((k.val : Nat) : Int)).2.1 = false) := by decide +kernel
theorem shp_facts {n r lo hi : Int} {i ok : Bool} (h0 : 0 ≤ n) (h1 : n ≤ 255) (h : shp n = (r, i, lo, hi, ok)) : (0 ≤ r ∧ r ≤ 3) ∧ (ok = false → r = 0 ∧ i = false) ∧
    (i = true → (n = 30 ∧ lo = minI ∧ hi = maxI) ∨ ((n = 32 ∨ n = 33) ∧ lo = 0 ∧ hi = 59999) ∨ (n = 37 ∧ lo = 1 ∧ hi = 256) ∨ (n = 48 ∧ lo = 0 ∧ hi = 5) ∨ ((n = 41 ∨ n = 46 ∨ n = 44 ∨ n = 45) ∧ lo = 0 ∧ hi = maxI)) := by
  have ha : (0 ≤ (shp n).1 ∧ (shp n).1 ≤ 3) ∧ ((shp n).2.2.2.2 = false → (shp n).1 = 0 ∧ (shp n).2.1 = false) := by
    have := shp_r ⟨n.toNat, by omega⟩
    simp only [Int.toNat_of_nonneg h0] at this
    exact this
  have hb : (shp n).2.1 = true → (n = 30 ∧ (shp n).2.2.1 = minI ∧ (shp n).2.2.2.1 = maxI) ∨ ((n = 32 ∨ n = 33) ∧ (shp n).2.2.1 = 0 ∧ (shp n).2.2.2.1 = 59999) ∨ (n = 37 ∧ (shp n).2.2.1 = 1 ∧ (shp n).2.2.2.1 = 256) ∨ (n = 48 ∧ (shp n).2.2.1 = 0 ∧ (shp n).2.2.2.1 = 5) ∨ ((n = 41 ∨ n = 46 ∨ n = 44 ∨ n = 45) ∧ (shp n).2.2.1 = 0 ∧ (shp n).2.2.2.1 = maxI) := by
    have := shp_imm ⟨n.toNat, by omega⟩
    simp only [Int.toNat_of_nonneg h0] at this
    exact this
  rw [h] at ha hb
  exact ⟨ha.1, ha.2, hb⟩
end Go.Proofs.Ytgjmdcbdkdmceaa

/- Walks: the reference's form of an instruction. -/
namespace Go.Proofs.Ytgjmdcbdkdmceaa
open Go.RowKit

theorem form_is {r lo hi op a b c imm : Int} {i : Bool} (h : Hid (formB ⟨op, a, b, c, imm⟩ = (true && formP r i lo hi ⟨op, a, b, c, imm⟩))) {v : Bool} (hv : (rgs r a b c 3 && (if i then decide (lo ≤ imm) && decide (imm ≤ hi) else imm == 0)) = v) :
    Ending.returned (.bool v) = .returned (.bool (formB ⟨op, a, b, c, imm⟩)) := by
  rw [h.out, formP_eq, ← hv]; simp

theorem dec2 {lo hi imm : Int} (h1 : lo ≤ imm) (h2 : imm ≤ hi) : (decide (lo ≤ imm) && decide (imm ≤ hi)) = true := by simp only [h1, h2, decide_true, Bool.and_self]

set_option maxHeartbeats 4000000 in
theorem refForm_any (op a b c imm : Int) (w : World) (h0 : 0 ≤ op) (h1 : op ≤ 255) (ha : 0 ≤ a) (hb : 0 ≤ b) (hc : 0 ≤ c) (hi2 : imm ≤ 9223372036854775807) (hi1 : -9223372036854775808 ≤ imm) :
   Calls Try.prog 86 #[.agg #[.int .u8 op, .int .u8 a, .int .u8 b, .int .u8 c, .int .i64 imm]] w fun e w' => e = .returned (.bool (formB ⟨op, a, b, c, imm⟩)) ∧ Below w.heap.size w w' := by
  obtain ⟨r, i, lo, hi, ok, hs⟩ : ∃ r i lo hi ok, shp op = (r, i, lo, hi, ok) := ⟨_, _, _, _, _, rfl⟩
  have HF : Hid (formB ⟨op, a, b, c, imm⟩ = (ok && formP r i lo hi ⟨op, a, b, c, imm⟩)) := by show _ = _; simp [formB, hs]
  obtain ⟨⟨r0, r3⟩, hok, hii⟩ := shp_facts h0 h1 hs
  have hn := fun w => names_any op w h0 h1
  have e1 : nmR op = if ok then r else -1 := by simp [nmR, hs]
  have e2 : nmI op = (ok && i) := by simp [nmI, hs]
  rw [e1, e2] at hn
  have HN := Lib.hid hn
  have HI := Lib.hid hii
  have hs2 : shp op = (r, i, lo, hi, ok) := hs
  have HS2 := Lib.hid hs2
  clear hn e1 e2 hs hok hii hs2
  go_enter Try.func86, Try.ntmps86
  go_wp2_with fail
  refine (HN.out _).mono ?_
  rintro e w1 ⟨rfl, hbl⟩
  obtain ⟨hcl, hfl⟩ := bcell hbl
  have hz : w.heap.size < w1.heap.size := by have := hbl.size; simp at this; omega
  have HB : Hid (Below w.heap.size w w1) := ((Below.refl _ _).alloc (Nat.le_refl _) _).trans (hbl.mono (by simp))
  clear hbl
  cases ok
  · simp only [Bool.false_eq_true, if_false, Bool.false_and]
    go_wp2
    go_ret
    exact ⟨by rw [HF.out]; rfl, HB.out⟩
  · simp only [if_true, Bool.true_and]
    have hr : r = 0 ∨ r = 1 ∨ r = 2 ∨ r = 3 := by omega
    clear r0 r3
    cases i
    · clear HI h0 h1 hi1 hi2
      rcases hr with rfl | rfl | rfl | rfl
      all_goals go_wp2
      all_goals go_ret
      all_goals refine ⟨?_, HB.out⟩
      all_goals go_light
      all_goals first
        | exact form_no HF (by clear HF HB; simp [rgs]; omega)
        | exact form_is HF (by clear HF HB; rw [show rgs _ a b c 3 = true from by simp [rgs]; omega]; simp)
    · have hi := HI.out rfl
      clear HI h0 h1
      rcases hi with ⟨rfl, rfl, rfl⟩ | ⟨rfl | rfl, rfl, rfl⟩ | ⟨rfl, rfl, rfl⟩ | ⟨rfl, rfl, rfl⟩ | ⟨rfl | rfl | rfl | rfl, rfl, rfl⟩
      all_goals (have hs2 := HS2.out; simp [shp] at hs2; obtain rfl := hs2; clear HS2)
      all_goals go_wp2
      all_goals go_ret
      all_goals refine ⟨?_, HB.out⟩
      all_goals go_light
      all_goals first
        | exact form_no HF (by clear HF HB; simp [rgs]; omega)
        | exact form_is HF (by clear HF HB; rw [show rgs _ a b c 3 = true from by simp [rgs]; omega]; first | (rw [if_pos rfl, Bool.true_and]; exact dec2 (by unfold minI; omega) (by unfold maxI; omega)) | (rw [if_pos rfl, Bool.true_and, show decide (imm ≤ maxI) = true from decide_eq_true (by unfold maxI; omega), Bool.and_true]; done) | (rw [if_pos rfl, Bool.true_and, show decide (imm ≤ maxI) = true from decide_eq_true (by unfold maxI; omega), Bool.and_true]; simp; done) | (rw [if_pos rfl, Bool.true_and, show decide (imm ≤ maxI) = true from decide_eq_true (by unfold maxI; omega), Bool.and_true]; simp; omega) | (simp; done) | (simp; omega) | (rw [Bool.eq_iff_iff]; simp; omega))
end Go.Proofs.Ytgjmdcbdkdmceaa

/- The document's machine: what a step calls. -/
namespace Go.Proofs.Ytgjmdcbdkdmceaa.Mach
open Go.RowKit

theorem rslots_any (M eb eo n c : Nat) (i : Nat) (s : Int) (w : World) (hc : w.cell? ⟨M, 1, none⟩ = some (.slice (some ⟨eb, eo, none⟩) n c)) (hi : i < n) (hs : w.cell? ⟨eb, eo + i * 2 + 1, none⟩ = some (.int .i64 s)) :
    Calls Try.prog 50 #[.pointer (some ⟨M, 0, none⟩), .int .i64 i] w fun e w' => e = .returned (.bool (slotsOk s)) ∧ w' = w := by
  go_enter Try.func50, Try.ntmps50
  go_wp2_with fail
  all_goals go_ret
  all_goals (simp_all [slotsOk] <;> omega)

end Go.Proofs.Ytgjmdcbdkdmceaa.Mach

/- The document's machine: a cell of its heap. -/
namespace Go.Proofs.Ytgjmdcbdkdmceaa.Mach
open Go.RowKit

def CellP (w w' : World) (M : Nat) (r : Int × Int) (e : Ending) : Prop := (r.1 = 0 ∧ e = .returned (.int .i64 r.2) ∧ w' = w) ∨ (r.1 ≠ 0 ∧ e = .returned (.int .i64 (-1)) ∧ w' = w.setCell ⟨M, 7, none⟩ (.int .u8 r.1))

set_option maxHeartbeats 1000000 in
theorem rcell_any (w : World) (M base : Nat) (hv : Value) (h : List Int) (e0 a i : Int) (hc : w.cell? ⟨M, 5, none⟩ = some hv) (hrow : w.ownsRow base 2 1 hv h.length (intsV h)) (m7 : w.cell? ⟨M, 7, none⟩ = some (.int .u8 e0)) (z7 : w.frozen? ⟨M, 7, none⟩ = false) (hl : h.length ≤ 4096) :
    Calls Try.prog 87 #[.pointer (some ⟨M, 0, none⟩), .int .i64 a, .int .i64 i] w fun e w' => CellP w w' M (cellF h a i) e := by
  obtain ⟨ha, hcp, rfl, -, -⟩ := oshape hrow
  by_cases h1 : a < 1
  · have d1 : decide (a < 1) = true := decide_eq_true h1
    rw [cellF_1 h1]
    go_enter Try.func87, Try.ntmps87
    go_wp2_with fail
    go_ret
    exact .inr ⟨by decide, rfl, rfl⟩
  by_cases h2 : (h.length : Int) < a
  · have d1 : decide (a < 1) = false := decide_eq_false h1
    have d2 : decide ((h.length : Int) < a) = true := decide_eq_true h2
    rw [cellF_2 h2]
    go_enter Try.func87, Try.ntmps87
    go_wp2_with fail
    go_ret
    exact .inr ⟨by decide, rfl, rfl⟩
  have d1 : decide (a < 1) = false := decide_eq_false h1
  have d2 : decide ((h.length : Int) < a) = false := decide_eq_false h2
  obtain ⟨m, rfl⟩ : ∃ m : Nat, a = (m : Int) + 1 := ⟨(a - 1).toNat, by omega⟩
  obtain ⟨hb, hcp', hv', hlb, -, -, hj⟩ := osplit hrow (by omega)
  simp only [Value.slice.injEq, true_and] at hv'
  obtain ⟨rfl, rfl⟩ := hv'
  obtain ⟨g, hg⟩ : ∃ g, g = h.getD m 0 := ⟨_, rfl⟩
  have hm : w.cell? ⟨hb, m, none⟩ = some (.int .i64 g) := by rw [hg]; exact hj _ _ (intsV_at (by omega))
  have em : ((m : Int) + 1 - 1).toNat = m := by omega
  have em2 : (m : Int) + 1 - 1 = m := by omega
  have hml : (m : Int) < h.length := by omega
  have HG := Lib.hid hg
  clear hj hg
  by_cases h3 : i < 0
  · have d3 : decide (i < 0) = true := decide_eq_true h3
    rw [cellF_3 h1 h2 (.inl h3)]
    go_enter Try.func87, Try.ntmps87
    go_wp2_with fail
    go_ret
    exact .inr ⟨by decide, rfl, rfl⟩
  have d3 : decide (i < 0) = false := decide_eq_false h3
  by_cases h4 : g ≤ i
  · have d4 : decide (g ≤ i) = true := decide_eq_true h4
    rw [cellF_3 h1 h2 (.inr (by rw [em, ← HG.out]; exact h4))]
    go_enter Try.func87, Try.ntmps87
    go_wp2_with fail
    go_ret
    exact .inr ⟨by decide, rfl, rfl⟩
  have d4 : decide (g ≤ i) = false := decide_eq_false h4
  by_cases h5 : (h.length : Int) - (m + 1) ≤ i
  · have d5 : decide ((h.length : Int) - (m + 1) ≤ i) = true := decide_eq_true h5
    rw [cellF_4 h1 h2 (by rw [em, ← HG.out]; omega) h5]
    go_enter Try.func87, Try.ntmps87
    go_wp2_with fail
    go_ret
    exact .inr ⟨by decide, rfl, rfl⟩
  · have d5 : decide ((h.length : Int) - (m + 1) ≤ i) = false := decide_eq_false h5
    rw [cellF_5 h1 h2 (by rw [em, ← HG.out]; omega) h5]
    go_enter Try.func87, Try.ntmps87
    go_wp2_with fail
    go_ret
    exact .inl ⟨rfl, rfl, rfl⟩
end Go.Proofs.Ytgjmdcbdkdmceaa.Mach
