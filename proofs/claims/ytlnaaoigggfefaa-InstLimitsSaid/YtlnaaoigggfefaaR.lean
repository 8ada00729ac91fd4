/- Walks: an instruction read off the front, as the program does it. -/
import Derived.Test.YtlnaaoigggfefaaQ
namespace Go.Proofs.Ytlnaaoigggfefaa
open Go.RowKit

def DecPost (l : List Int) (w : World) (e : Ending) (w' : World) : Prop :=
  Below w.heap.size w w' ∧ ∃ (op a b c imm n err : Int), e = .returned (.tuple #[.agg #[.int .u8 op, .int .u8 a, .int .u8 b, .int .u8 c, .int .i64 imm], .int .i64 n, .int .i64 err]) ∧
    (∀ x k, decS l = some (x, k) → x = ⟨op, a, b, c, imm⟩ ∧ n = k ∧ err = 0) ∧ (decS l = none → op = 0 ∧ a = 0 ∧ b = 0 ∧ c = 0 ∧ imm = 0 ∧ n = 0 ∧ err = 3)

theorem decPost_no {l : List Int} {w w' : World} (h : decS l = none) (hb : Below w.heap.size w w') : DecPost l w (.returned (.tuple #[.agg #[.int .u8 0, .int .u8 0, .int .u8 0, .int .u8 0, .int .i64 0], .int .i64 0, .int .i64 3])) w' :=
  ⟨hb, 0, 0, 0, 0, 0, 0, 3, rfl, fun x k hx => (by rw [h] at hx; cases hx), fun _ => ⟨rfl, rfl, rfl, rfl, rfl, rfl, rfl⟩⟩
theorem decPost_yes {l : List Int} {w w' : World} {op a b c imm : Int} {k : Nat} {n : Int} (h : decS l = some (⟨op, a, b, c, imm⟩, k)) (hn : n = k) (hb : Below w.heap.size w w') : DecPost l w (.returned (.tuple #[.agg #[.int .u8 op, .int .u8 a, .int .u8 b, .int .u8 c, .int .i64 imm], .int .i64 n, .int .i64 0])) w' :=
  ⟨hb, op, a, b, c, imm, n, 0, rfl, fun x k' hx => (by rw [h] at hx; cases hx; exact ⟨rfl, hn, rfl⟩), fun hx => (by rw [h] at hx; cases hx)⟩

def gR (t : List Int) (m j : Nat) : Int := if m < j then t.getD m 0 else 0

structure DecLoop (op : Int) (t : List Int) (q : Nat) (i : Bool) (lo hi : Int) (w w1 wr : World) (j : Nat) : Prop where
  bel : Below w.heap.size w wr
  word : wr.heap[w1.heap.size + 1]? = some (.cells #[.int .u8 op, .int .u8 (gR t 0 j), .int .u8 (gR t 1 j), .int .u8 (gR t 2 j), .int .i64 0] 26)
  shape : wr.heap[w1.heap.size]? = some (.cells #[.int .i64 (q : Int), .bool i, .int .i64 lo, .int .i64 hi] 52)
  ptrs : wr.heap[w1.heap.size + 2]? = some (.cells #[.pointer (some ⟨w1.heap.size + 1, 1, none⟩), .pointer (some ⟨w1.heap.size + 1, 2, none⟩), .pointer (some ⟨w1.heap.size + 1, 3, none⟩)] 58)
  res : wr.heap[w.heap.size]? = some (.cells #[.int .u8 0, .int .u8 0, .int .u8 0, .int .u8 0, .int .i64 0] 26)

theorem dec_next {op lo hi x : Int} {t : List Int} {q j : Nat} {i : Bool} {w w1 wr : World} (h : DecLoop op t q i lo hi w w1 wr j) (hw : w.heap.size < w1.heap.size) (hj : j = 0 ∨ j = 1 ∨ j = 2) (hx : t.getD j 0 = x) :
    DecLoop op t q i lo hi w w1 (wr.setCell ⟨w1.heap.size + 1, 1 + j, none⟩ (.int .u8 x)) (j + 1) := by
  refine ⟨h.bel.setCell (by simp; omega) _, ?_, ?_, ?_, ?_⟩
  · rw [heap_setCell_same _ _ _ _ _ _ h.word]
    rcases hj with rfl | rfl | rfl <;> simp [gR, ← hx]
  · rw [heap_setCell_other _ _ _ _ (by simp)]; exact h.shape
  · rw [heap_setCell_other _ _ _ _ (by simp)]; exact h.ptrs
  · rw [heap_setCell_other _ _ _ _ (by simp; omega)]; exact h.res

theorem shp_nat {op r lo hi : Int} {i ok : Bool} (o0 : 0 ≤ op) (o1 : op ≤ 255) (hs : shp op = (r, i, lo, hi, ok)) : ∃ q : Nat, r = q ∧ q ≤ 3 := by
  obtain ⟨⟨r0, r3⟩, -, -⟩ := shp_facts o0 o1 hs
  exact ⟨r.toNat, by omega, by omega⟩

set_option maxHeartbeats 1000000 in
theorem decode_bad (b off c : Nat) (op : Int) (t : List Int) (w : World) (q : Nat) (i ok : Bool) (lo hi : Int) (hs : shp op = ((q : Int), i, lo, hi, ok)) (hq3 : q ≤ 3) (hbad : ok = false ∨ t.length < q) (hb : b < w.heap.size) (hlt : t.length + 1 ≤ 9223372036854775807)
    (c0 : w.cell? ⟨b, off, none⟩ = some (.int .u8 op)) : Calls Try.prog 10 #[.slice (some ⟨b, off, none⟩) (t.length + 1) c] w (DecPost (op :: t) w) := by
  have hz : ((t.length : Int) + 1 == 0) = false := by simp; omega
  have HN : Hid (decS (op :: t) = none) := by
    show _ = _
    rcases hbad with rfl | h
    · simp [decS, hs]
    · cases ok <;> simp [decS, hs]; omega
  have HS := Lib.hid (fun w => shape_is hs w)
  have hlq : ok = true → t.length < q := by rcases hbad with rfl | h <;> simp [*]
  have HQ := Lib.hid hlq
  clear hs hbad hlq
  go_enter Try.func10, Try.ntmps10
  go_wp2_with fail
  refine (HS.out _).mono ?_
  rintro e w1 ⟨rfl, hb1⟩
  obtain ⟨hc1, hf1⟩ := bcell hb1
  have hz1 : w.heap.size < w1.heap.size := by have := hb1.size; simp at this; omega
  have HB1 : Hid (Below w.heap.size w w1) := ((Below.refl _ _).alloc (Nat.le_refl _) _).trans (hb1.mono (by simp))
  clear hb1 HS
  cases ok
  · go_wp2_with fail
    refine bodyPost_ret (v := .tuple #[.agg #[.int .u8 0, .int .u8 0, .int .u8 0, .int .u8 0, .int .i64 0], .int .i64 0, .int .i64 3]) ?_ rfl (decPost_no HN.out ?_)
    · simp [results, Try.results10, go_sem, hc1, hz1]
    · repeat (with_reducible (first | exact HB1.out | refine Below.alloc ?_ ?_ _ | refine Below.setCell ?_ ?_ _ | exact Nat.le_refl _ | (simp; done) | (simp; omega)))
  · have hq := HQ.out rfl
    go_wp2_with fail
    refine bodyPost_ret (v := .tuple #[.agg #[.int .u8 0, .int .u8 0, .int .u8 0, .int .u8 0, .int .i64 0], .int .i64 0, .int .i64 3]) ?_ rfl (decPost_no HN.out ?_)
    · simp [results, Try.results10, go_sem, hc1, hz1]
    · repeat (with_reducible (first | exact HB1.out | refine Below.alloc ?_ ?_ _ | refine Below.setCell ?_ ?_ _ | exact Nat.le_refl _ | (simp; done) | (simp; omega)))
end Go.Proofs.Ytlnaaoigggfefaa
