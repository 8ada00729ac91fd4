/- The plain law: the reference's reader is the program's. No program in sight. -/
import Derived.Test.YtlnaaoigggfefaaL
namespace Go.Proofs.Ytlnaaoigggfefaa
open Go.RowKit

def topS (k : Nat) : Int := 18446744073709551616 - 256 ^ k
/-- The reference's value of so many bytes. -/
def refV (bs : List Int) (s : Bool) : Int :=
  wrap64 (if s && decide (0 < bs.length) && decide (bs.length < 8) && decide (127 < bs.getD (bs.length - 1) 0) then valL bs + topS bs.length else valL bs)

theorem last_bd (bs : List Int) (hB : isB bs) (h : 0 < bs.length) : 127 < bs.getD (bs.length - 1) 0 ↔ 256 ^ bs.length ≤ 2 * valL bs := by
  obtain ⟨l, x, rfl⟩ : ∃ l x, bs = l ++ [x] := ⟨bs.dropLast, bs.getLast (by intro e; simp [e] at h), (List.dropLast_concat_getLast _).symm⟩
  have hl := valL_bd l (fun y hy => hB y (by simp [hy]))
  have hx := hB x (by simp)
  have e : (l ++ [x]).getD ((l ++ [x]).length - 1) 0 = x := by simp
  have hp : (0 : Int) < 256 ^ l.length := Int.pow_pos (by decide)
  rw [e, valL_append]
  simp only [List.length_append, List.length_cons, List.length_nil, Int.pow_succ, Nat.zero_add]
  generalize (256 : Int) ^ l.length = P at *
  generalize valL l = V at *
  constructor
  · intro hx2
    have : P * 128 ≤ P * x := Int.mul_le_mul_of_nonneg_left (by omega) (by omega)
    omega
  · intro hx2
    rcases Int.lt_or_le 127 x with h3 | h3
    · exact h3
    · have : P * x ≤ P * 127 := Int.mul_le_mul_of_nonneg_left (by omega) (by omega)
      omega

theorem refV_is (bs : List Int) (s : Bool) (hB : isB bs) (hl : bs.length ≤ 8) : refV bs s = readV bs s := by
  have hv := valL_bd bs hB
  by_cases h0 : bs.length = 0
  · have : bs = [] := List.eq_nil_of_length_eq_zero h0
    subst this
    simp [refV, readV]
  · have hlast := last_bd bs hB (by omega)
    have e : decide (127 < bs.getD (bs.length - 1) 0) = decide (256 ^ bs.length ≤ 2 * valL bs) := by simp only [hlast]
    unfold refV readV
    rw [e]
    clear e hlast
    generalize valL bs = v at *
    generalize bs.length = k at *
    rcases le8 hl with rfl | rfl | rfl | rfl | rfl | rfl | rfl | rfl | rfl <;> cases s <;> simp [wrap64, topS] at * <;> (try split) <;> omega

def decR (p : List Int) : Option (W × Nat) :=
  let chk (x : W) : Option (W × Nat) := if formB x then (if (encL x).length ≤ p.length ∧ p.take (encL x).length = encL x then some (x, (encL x).length) else none) else none
  match p with
  | [] => none
  | op :: t => match shp op with
    | (r, i, _, _, ok) =>
      if !ok then none else if decide ((t.length : Int) < r) then none
      else if i then match t.drop r.toNat with
        | [] => none
        | k :: u => if decide (8 < k) || decide ((u.length : Int) < k) then none else chk (regsOf op r.toNat t (refV (u.take k.toNat) (op == 30)))
      else chk (regsOf op r.toNat t 0)

theorem decR_is (p : List Int) (hB : isB p) : decR p = decS p := by
  cases hd : decS p with
  | some y =>
    obtain ⟨x, n⟩ := y
    obtain ⟨_, hf, he, h1, hn⟩ := decS_some hB hd
    have hlen : (encL x).length = n := by rw [he, List.length_take]; omega
    cases p with
    | nil => simp [decS] at hd
    | cons op t =>
      obtain ⟨r, i, lo, hi, ok, hs⟩ : ∃ r i lo hi ok, shp op = (r, i, lo, hi, ok) := ⟨_, _, _, _, _, rfl⟩
      simp only [decS, hs] at hd
      simp only [decR, hs]
      split at hd
      · cases hd
      · rename_i g1; rw [if_neg g1]
        split at hd
        · cases hd
        · rename_i g2; rw [if_neg g2]
          cases i
          · simp only [Bool.false_eq_true, if_false, fin] at hd ⊢
            split at hd
            · rename_i hf2
              simp only [Option.some.injEq, Prod.mk.injEq] at hd
              obtain ⟨rfl, rfl⟩ := hd
              rw [if_pos hf2, if_pos ⟨by omega, by rw [hlen, he]⟩, hlen]
            · cases hd
          · simp only [if_true] at hd ⊢
            have hBd : isB (t.drop r.toNat) := fun x hx => hB x (List.mem_cons_of_mem _ (List.mem_of_mem_drop hx))
            split at hd
            · cases hd
            · rename_i v m hrd
              simp only [fin] at hd
              split at hd
              · rename_i hf2
                simp only [Option.some.injEq, Prod.mk.injEq] at hd
                obtain ⟨rfl, rfl⟩ := hd
                generalize hq : t.drop r.toNat = q at *
                cases q with
                | nil => simp [readL] at hrd
                | cons k u =>
                  simp only [readL] at hrd
                  split at hrd
                  · cases hrd
                  · rename_i g3
                    split at hrd
                    · simp only [Option.some.injEq, Prod.mk.injEq] at hrd
                      obtain ⟨rfl, rfl⟩ := hrd
                      simp only
                      rw [if_neg g3]
                      have hk := hBd k (List.mem_cons_self ..)
                      simp at g3
                      rw [refV_is _ _ (fun x hx => hBd x (List.mem_cons_of_mem _ (List.mem_of_mem_take hx))) (by rw [List.length_take]; omega)]
                      rw [if_pos hf2, if_pos ⟨by omega, by rw [hlen, he]⟩, hlen]
                    · cases hrd
              · cases hd
  | none =>
    cases p with
    | nil => rfl
    | cons op t =>
      have ho := hB op (List.mem_cons_self ..)
      obtain ⟨r, i, lo, hi, ok, hs⟩ : ∃ r i lo hi ok, shp op = (r, i, lo, hi, ok) := ⟨_, _, _, _, _, rfl⟩
      simp only [decS, hs] at hd
      simp only [decR, hs]
      split
      · rfl
      · rename_i g1; rw [if_neg g1] at hd
        split
        · rfl
        · rename_i g2; rw [if_neg g2] at hd
          cases i
          · simp only [Bool.false_eq_true, if_false, fin] at hd ⊢
            split at hd
            · cases hd
            · rename_i hf2; rw [if_neg hf2]
          · simp only [if_true] at hd ⊢
            have hBd : isB (t.drop r.toNat) := fun x hx => hB x (List.mem_cons_of_mem _ (List.mem_of_mem_drop hx))
            generalize hq : t.drop r.toNat = q at *
            cases q with
            | nil => rfl
            | cons k u =>
              have hk := hBd k (List.mem_cons_self ..)
              simp only
              split
              · rfl
              · rename_i g3
                have g3' := g3
                simp at g3'
                have hBu : isB (u.take k.toNat) := fun x hx => hBd x (List.mem_cons_of_mem _ (List.mem_of_mem_take hx))
                have hlu : (u.take k.toNat).length = k.toNat := by rw [List.length_take]; omega
                rw [refV_is _ _ hBu (by omega)]
                simp only [readL, if_neg g3] at hd
                split at hd
                · rename_i hnone
                  split at hnone
                  · cases hnone
                  · rename_i g4
                    split
                    · rename_i hf
                      rw [if_neg]
                      rintro ⟨e1, e2⟩
                      apply g4
                      have hN := numL_read (u.take k.toNat) (op == 30) hBu (by omega)
                      have hpos : (op == 30) = true ∨ 0 ≤ readV (u.take k.toNat) (op == 30) := by
                        by_cases h30 : op = 30
                        · left; simp [h30]
                        · right
                          have := form_lo (x := regsOf op r.toNat t (readV (u.take k.toNat) (op == 30))) hf hs
                          have := shp_lo0 ho.1 ho.2 hs h30
                          have e2 : (regsOf op r.toNat t (readV (u.take k.toNat) (op == 30))).imm = readV (u.take k.toNat) (op == 30) := rfl
                          omega
                      have hN := hN hpos
                      rw [hlu] at hN
                      have key : numL (readV (u.take k.toNat) (op == 30)) (op == 30) = ((k.toNat : Nat) : Int) :: u.take k.toNat := by
                        have a1 : (regsOf op r.toNat t (readV (u.take k.toNat) (op == 30))).op = op := rfl
                        have a2 : (regsOf op r.toNat t (readV (u.take k.toNat) (op == 30))).imm = readV (u.take k.toNat) (op == 30) := rfl
                        generalize readV (u.take k.toNat) (op == 30) = v at *
                        generalize (regsOf op r.toNat t v) = x at *
                        simp only [encL, a1, a2, hs, if_true] at e1 e2
                        generalize hS : [x.a, x.b, x.c].take r.toNat = R at *
                        have hR : R.length = r.toNat := by
                          have hr := shp_rcase ho.1 ho.2 hs
                          rw [← hS]; rcases hr with rfl | rfl | rfl | rfl <;> simp
                        simp only [List.length_cons, List.take_succ_cons, List.cons.injEq, true_and] at e2
                        have e3 := congrArg (List.drop r.toNat) e2
                        rw [List.drop_take, hq, List.drop_left' hR] at e3
                        simp only [List.length_append, hR, Nat.add_sub_cancel_left] at e3
                        simp only [numL] at e3 ⊢
                        simp only [List.length_cons, bytesL_length, List.take_succ_cons, List.cons.injEq] at e3
                        obtain ⟨e4, e5⟩ := e3
                        have e6 : nbL v (op == 30) = k.toNat := by omega
                        rw [e6] at e5 ⊢
                        rw [e5]
                      have := hN.1 key
                      rcases this with h | h
                      · have : k = 0 := by omega
                        simp [this]
                      · rw [h]; simp
                    · rfl
                · rename_i v m hsome
                  split at hsome
                  · simp only [Option.some.injEq, Prod.mk.injEq] at hsome
                    obtain ⟨rfl, rfl⟩ := hsome
                    simp only [fin] at hd
                    split at hd
                    · cases hd
                    · rename_i hf; rw [if_neg hf]
                  · cases hsome
end Go.Proofs.Ytlnaaoigggfefaa
