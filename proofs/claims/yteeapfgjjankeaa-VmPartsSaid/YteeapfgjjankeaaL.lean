/- The plain law of instructions: they are written and read again; the two readers agree. No program in sight. -/
import Derived.Test.YteeapfgjjankeaaB
namespace Go.Proofs.Yteeapfgjjankeaa
open Go.RowKit

theorem shp_rr : ∀ k : Fin 256, (shp ((k.val : Nat) : Int)).1 = 0 ∨ (shp ((k.val : Nat) : Int)).1 = 1 ∨ (shp ((k.val : Nat) : Int)).1 = 2 ∨ (shp ((k.val : Nat) : Int)).1 = 3 := by decide +kernel
theorem shp_rcase {n r lo hi : Int} {i ok : Bool} (h0 : 0 ≤ n) (h1 : n ≤ 255) (h : shp n = (r, i, lo, hi, ok)) : r = 0 ∨ r = 1 ∨ r = 2 ∨ r = 3 := by
  have := shp_rr ⟨n.toNat, by omega⟩
  simp only [Int.toNat_of_nonneg h0] at this
  rw [h] at this
  exact this

theorem shp_lo : ∀ k : Fin 256, ((k.val : Nat) : Int) ≠ 30 → 0 ≤ (shp ((k.val : Nat) : Int)).2.2.1 := by decide +kernel
theorem shp_lo0 {n r lo hi : Int} {i ok : Bool} (h0 : 0 ≤ n) (h1 : n ≤ 255) (h : shp n = (r, i, lo, hi, ok)) (hn : n ≠ 30) : 0 ≤ lo := by
  have := shp_lo ⟨n.toNat, by omega⟩
  simp only [Int.toNat_of_nonneg h0] at this
  rw [h] at this
  exact this hn
theorem form_lo {x : W} {r lo hi : Int} {ok : Bool} (hf : formB x = true) (h : shp x.op = (r, true, lo, hi, ok)) : lo ≤ x.imm := by
  simp only [formB, h, formP, Bool.and_eq_true, if_true, decide_eq_true_eq] at hf
  exact hf.2.2.1

/-- A right instruction is read back from its bytes, whatever stands behind. -/
theorem decS_enc (x : W) (hx : x.ok) (hf : formB x = true) (more : List Int) : decS (encL x ++ more) = some (x, (encL x).length) := by
  obtain ⟨op, a, b, c, imm⟩ := x
  obtain ⟨⟨o0, o1⟩, ⟨a0, a1⟩, ⟨b0, b1⟩, ⟨c0, c1⟩, ⟨i0, i1⟩⟩ := hx
  obtain ⟨r, i, lo, hi, ok, hs⟩ : ∃ r i lo hi ok, shp op = (r, i, lo, hi, ok) := ⟨_, _, _, _, _, rfl⟩
  simp only at o0 o1 a0 a1 b0 b1 c0 c1 i0 i1
  have hr := shp_rcase o0 o1 hs
  have hf2 := hf
  simp only [formB, hs, Bool.and_eq_true] at hf2
  obtain ⟨rfl, hp⟩ := hf2
  simp only [formP, Bool.and_eq_true, Bool.or_eq_true, decide_eq_true_eq, beq_iff_eq] at hp
  simp only [encL, hs]
  cases i
  · simp at hp
    obtain ⟨⟨⟨⟨⟨⟨p1, p2⟩, p3⟩, p4⟩, p5⟩, p6⟩, rfl⟩ := hp
    rcases hr with rfl | rfl | rfl | rfl <;> simp at p4 p5 p6 <;> (try subst p4) <;> (try subst p5) <;> (try subst p6) <;> simp [decS, hs, fin, regsOf, hf] <;> omega
  · simp at hp
    obtain ⟨⟨⟨⟨⟨⟨p1, p2⟩, p3⟩, p4⟩, p5⟩, p6⟩, p7, p8⟩ := hp
    have hR := readL_num imm (op == 30) more i0 i1
    rcases hr with rfl | rfl | rfl | rfl <;> simp at p4 p5 p6 <;> (try subst p4) <;> (try subst p5) <;> (try subst p6) <;> simp [decS, hs, fin, regsOf, hf, hR] <;> omega

theorem readL_some {q : List Int} {s : Bool} {v : Int} {m : Nat} (hB : isB q) (h : readL q s = some (v, m)) :
    (-9223372036854775808 ≤ v ∧ v ≤ 9223372036854775807) ∧ 1 ≤ m ∧ m ≤ q.length ∧ (s = true ∨ 0 ≤ v → numL v s = q.take m) := by
  cases q with
  | nil => simp [readL] at h
  | cons k t =>
    have hk := hB k (List.mem_cons_self ..)
    simp only [readL] at h
    split at h
    · cases h
    · rename_i h1
      simp at h1
      have hlen : (t.take k.toNat).length = k.toNat := by rw [List.length_take]; omega
      have hB2 : isB (t.take k.toNat) := fun x hx => hB x (List.mem_cons_of_mem _ (List.mem_of_mem_take hx))
      obtain ⟨hr, _, _⟩ := readV_facts (t.take k.toNat) s hB2 (by omega)
      have hN := fun hs => numL_read (t.take k.toNat) s hB2 (by omega) hs
      rw [hlen] at hN
      split at h
      · rename_i h2
        simp only [Option.some.injEq, Prod.mk.injEq] at h
        obtain ⟨rfl, rfl⟩ := h
        refine ⟨hr, by omega, by simp; omega, fun hs => ?_⟩
        rw [(hN hs).2 (by simp at h2; rcases h2 with h2 | h2; · left; omega
                          · right; exact h2)]
        rw [Nat.add_comm, List.take_succ_cons, Int.toNat_of_nonneg hk.1]
      · cases h

/-- What is read is right, and has the bytes that it was read from. -/
theorem decS_some {p : List Int} {x : W} {n : Nat} (hB : isB p) (h : decS p = some (x, n)) : x.ok ∧ formB x = true ∧ encL x = p.take n ∧ 1 ≤ n ∧ n ≤ p.length := by
  cases p with
  | nil => simp [decS] at h
  | cons op t =>
    have ho := hB op (List.mem_cons_self ..)
    have hBt : isB t := fun x hx => hB x (List.mem_cons_of_mem _ hx)
    obtain ⟨r, i, lo, hi, ok, hs⟩ : ∃ r i lo hi ok, shp op = (r, i, lo, hi, ok) := ⟨_, _, _, _, _, rfl⟩
    have hr := shp_rcase ho.1 ho.2 hs
    simp only [decS, hs] at h
    have hg : ∀ j : Nat, 0 ≤ t.getD j 0 ∧ t.getD j 0 ≤ 255 := by
      intro j
      by_cases hj : j < t.length
      · have := hBt t[j] (List.getElem_mem hj); simpa [hj] using this
      · simp [List.getElem?_eq_none (Nat.le_of_not_lt hj)]
    split at h
    · cases h
    · split at h
      · cases h
      · rename_i hk hl
        simp at hl
        have g0 := hg 0
        have g1 := hg 1
        have g2 := hg 2
        have hok : ∀ v : Int, -9223372036854775808 ≤ v → v ≤ 9223372036854775807 → (regsOf op r.toNat t v).ok := by
          intro v v1 v2
          refine ⟨ho, ?_, ?_, ?_, v1, v2⟩ <;> (simp only [regsOf]; split <;> omega)
        have hreg : ∀ v : Int, ([(regsOf op r.toNat t v).a, (regsOf op r.toNat t v).b, (regsOf op r.toNat t v).c]).take r.toNat = t.take r.toNat := by
          intro v
          rcases hr with rfl | rfl | rfl | rfl
          · simp
          · match t, hl with
            | y0 :: t', _ => simp [regsOf]
          · match t, hl with
            | y0 :: y1 :: t', _ => simp [regsOf]
          · match t, hl with
            | y0 :: y1 :: y2 :: t', _ => simp [regsOf]
        split at h
        · rename_i hi'
          subst hi'
          have hBd : isB (t.drop r.toNat) := fun x hx => hBt x (List.mem_of_mem_drop hx)
          split at h
          · cases h
          · rename_i v m hrd
            simp only [fin] at h
            split at h
            · rename_i hf
              simp only [Option.some.injEq, Prod.mk.injEq] at h
              obtain ⟨rfl, rfl⟩ := h
              obtain ⟨⟨v1, v2⟩, m1, m2, hn⟩ := readL_some hBd hrd
              have hpos : (op == 30) = true ∨ 0 ≤ v := by
                by_cases h30 : op = 30
                · left; simp [h30]
                · right
                  have := form_lo (x := regsOf op r.toNat t v) hf hs
                  have := shp_lo0 ho.1 ho.2 hs h30
                  have e2 : (regsOf op r.toNat t v).imm = v := rfl
                  omega
              refine ⟨hok v v1 v2, hf, ?_, by omega, by simp at m2 ⊢; omega⟩
              have e1 : (regsOf op r.toNat t v).op = op := rfl
              have e2 : (regsOf op r.toNat t v).imm = v := rfl
              simp only [encL, e1, hs, e2, if_true, hreg, hn hpos]
              rw [show 1 + r.toNat + m = (r.toNat + m) + 1 from by omega, List.take_succ_cons, List.take_add]
            · cases h
        · rename_i hi'
          simp only [fin] at h
          split at h
          · rename_i hf
            simp only [Option.some.injEq, Prod.mk.injEq] at h
            obtain ⟨rfl, rfl⟩ := h
            refine ⟨hok 0 (by omega) (by omega), hf, ?_, by omega, by simp; omega⟩
            have e1 : (regsOf op r.toNat t 0).op = op := rfl
            simp only [encL, e1, hs, hi', hreg]
            simp [Nat.add_comm 1]
          · cases h
end Go.Proofs.Yteeapfgjjankeaa
