/- The plain law of instructions: they are written and read again; the two readers agree. No program in sight. -/
import Derived.Test.YtnanlkoldloolaaDoorQ13
import Derived.Test.YtnanlkoldloolaaDoorQ0
import Derived.Test.YtnanlkoldloolaaDoorProg
import Derived.Deep.LoopGhost
import Derived.Test.YtnanlkoldloolaaDoorQFj
import Derived.Deep.QuietTactic
import Derived.BigQuiet
import Derived.OwnWalk
import Derived.Maps.OwnSet
import Derived.KernelRfl
namespace Go.Proofs.YtnanlkoldloolaaDoor
open Go.RowKit

theorem shp_rr : ∀ k : Fin 256, (shp ((k.val : Nat) : Int)).1 = 0 ∨ (shp ((k.val : Nat) : Int)).1 = 1 ∨ (shp ((k.val : Nat) : Int)).1 = 2 ∨ (shp ((k.val : Nat) : Int)).1 = 3 := by decide +kernel
theorem shp_rcase {n r lo hi : Int} {i ok : Bool} (h0 : 0 ≤ n) (h1 : n ≤ 255) (h : shp n = (r, i, lo, hi, ok)) : r = 0 ∨ r = 1 ∨ r = 2 ∨ r = 3 := by
  have := shp_rr ⟨n.toNat, by omega⟩
  simp only [Int.toNat_of_nonneg h0] at this
  rw [h] at this
  exact this

theorem shp_lo : ∀ k : Fin 256, ((k.val : Nat) : Int) ≠ 30 → 0 ≤ (shp ((k.val : Nat) : Int)).2.2.1 := by decide +kernel
theorem shp_lo0 {n r lo hi : Int} {i ok : Bool} (h0 : 0 ≤ n) (h1 : n ≤ 255) (h : shp n = (r, i, lo, hi, ok)) (hn : n ≠ 30) : 0 ≤ lo := by
  have := shp_lo ⟨n.toNat, by omega⟩
  simp only [Int.toNat_of_nonneg h0] at this
  rw [h] at this
  exact this hn
theorem form_lo {x : W} {r lo hi : Int} {ok : Bool} (hf : formB x = true) (h : shp x.op = (r, true, lo, hi, ok)) : lo ≤ x.imm := by
  simp only [formB, h, formP, Bool.and_eq_true, if_true, decide_eq_true_eq] at hf
  exact hf.2.2.1

/-- A right instruction is read back from its bytes, whatever stands behind. -/
theorem decS_enc (x : W) (hx : x.ok) (hf : formB x = true) (more : List Int) : decS (encL x ++ more) = some (x, (encL x).length) := by
  obtain ⟨op, a, b, c, imm⟩ := x
  obtain ⟨⟨o0, o1⟩, ⟨a0, a1⟩, ⟨b0, b1⟩, ⟨c0, c1⟩, ⟨i0, i1⟩⟩ := hx
  obtain ⟨r, i, lo, hi, ok, hs⟩ : ∃ r i lo hi ok, shp op = (r, i, lo, hi, ok) := ⟨_, _, _, _, _, rfl⟩
  simp only at o0 o1 a0 a1 b0 b1 c0 c1 i0 i1
  have hr := shp_rcase o0 o1 hs
  have hf2 := hf
  simp only [formB, hs, Bool.and_eq_true] at hf2
  obtain ⟨rfl, hp⟩ := hf2
  simp only [formP, Bool.and_eq_true, Bool.or_eq_true, decide_eq_true_eq, beq_iff_eq] at hp
  simp only [encL, hs]
  cases i
  · simp at hp
    obtain ⟨⟨⟨⟨⟨⟨p1, p2⟩, p3⟩, p4⟩, p5⟩, p6⟩, rfl⟩ := hp
    rcases hr with rfl | rfl | rfl | rfl <;> simp at p4 p5 p6 <;> (try subst p4) <;> (try subst p5) <;> (try subst p6) <;> simp [decS, hs, fin, regsOf, hf] <;> omega
  · simp at hp
    obtain ⟨⟨⟨⟨⟨⟨p1, p2⟩, p3⟩, p4⟩, p5⟩, p6⟩, p7, p8⟩ := hp
    have hR := readL_num imm (op == 30) more i0 i1
    rcases hr with rfl | rfl | rfl | rfl <;> simp at p4 p5 p6 <;> (try subst p4) <;> (try subst p5) <;> (try subst p6) <;> simp [decS, hs, fin, regsOf, hf, hR] <;> omega

theorem readL_some {q : List Int} {s : Bool} {v : Int} {m : Nat} (hB : isB q) (h : readL q s = some (v, m)) :
    (-9223372036854775808 ≤ v ∧ v ≤ 9223372036854775807) ∧ 1 ≤ m ∧ m ≤ q.length ∧ (s = true ∨ 0 ≤ v → numL v s = q.take m) := by
  cases q with
  | nil => simp [readL] at h
  | cons k t =>
    have hk := hB k (List.mem_cons_self ..)
    simp only [readL] at h
    split at h
    · cases h
    · rename_i h1
      simp at h1
      have hlen : (t.take k.toNat).length = k.toNat := by rw [List.length_take]; omega
      have hB2 : isB (t.take k.toNat) := fun x hx => hB x (List.mem_cons_of_mem _ (List.mem_of_mem_take hx))
      obtain ⟨hr, _, _⟩ := readV_facts (t.take k.toNat) s hB2 (by omega)
      have hN := fun hs => numL_read (t.take k.toNat) s hB2 (by omega) hs
      rw [hlen] at hN
      split at h
      · rename_i h2
        simp only [Option.some.injEq, Prod.mk.injEq] at h
        obtain ⟨rfl, rfl⟩ := h
        refine ⟨hr, by omega, by simp; omega, fun hs => ?_⟩
        rw [(hN hs).2 (by simp at h2; rcases h2 with h2 | h2; · left; omega
                          · right; exact h2)]
        rw [Nat.add_comm, List.take_succ_cons, Int.toNat_of_nonneg hk.1]
      · cases h

/-- What is read is right, and has the bytes that it was read from. -/
theorem decS_some {p : List Int} {x : W} {n : Nat} (hB : isB p) (h : decS p = some (x, n)) : x.ok ∧ formB x = true ∧ encL x = p.take n ∧ 1 ≤ n ∧ n ≤ p.length := by
  cases p with
  | nil => simp [decS] at h
  | cons op t =>
    have ho := hB op (List.mem_cons_self ..)
    have hBt : isB t := fun x hx => hB x (List.mem_cons_of_mem _ hx)
    obtain ⟨r, i, lo, hi, ok, hs⟩ : ∃ r i lo hi ok, shp op = (r, i, lo, hi, ok) := ⟨_, _, _, _, _, rfl⟩
    have hr := shp_rcase ho.1 ho.2 hs
    simp only [decS, hs] at h
    have hg : ∀ j : Nat, 0 ≤ t.getD j 0 ∧ t.getD j 0 ≤ 255 := by
      intro j
      by_cases hj : j < t.length
      · have := hBt t[j] (List.getElem_mem hj); simpa [hj] using this
      · simp [List.getElem?_eq_none (Nat.le_of_not_lt hj)]
    split at h
    · cases h
    · split at h
      · cases h
      · rename_i hk hl
        simp at hl
        have g0 := hg 0
        have g1 := hg 1
        have g2 := hg 2
        have hok : ∀ v : Int, -9223372036854775808 ≤ v → v ≤ 9223372036854775807 → (regsOf op r.toNat t v).ok := by
          intro v v1 v2
          refine ⟨ho, ?_, ?_, ?_, v1, v2⟩ <;> (simp only [regsOf]; split <;> omega)
        have hreg : ∀ v : Int, ([(regsOf op r.toNat t v).a, (regsOf op r.toNat t v).b, (regsOf op r.toNat t v).c]).take r.toNat = t.take r.toNat := by
          intro v
          rcases hr with rfl | rfl | rfl | rfl
          · simp
          · match t, hl with
            | y0 :: t', _ => simp [regsOf]
          · match t, hl with
            | y0 :: y1 :: t', _ => simp [regsOf]
          · match t, hl with
            | y0 :: y1 :: y2 :: t', _ => simp [regsOf]
        split at h
        · rename_i hi'
          subst hi'
          have hBd : isB (t.drop r.toNat) := fun x hx => hBt x (List.mem_of_mem_drop hx)
          split at h
          · cases h
          · rename_i v m hrd
            simp only [fin] at h
            split at h
            · rename_i hf
              simp only [Option.some.injEq, Prod.mk.injEq] at h
              obtain ⟨rfl, rfl⟩ := h
              obtain ⟨⟨v1, v2⟩, m1, m2, hn⟩ := readL_some hBd hrd
              have hpos : (op == 30) = true ∨ 0 ≤ v := by
                by_cases h30 : op = 30
                · left; simp [h30]
                · right
                  have := form_lo (x := regsOf op r.toNat t v) hf hs
                  have := shp_lo0 ho.1 ho.2 hs h30
                  have e2 : (regsOf op r.toNat t v).imm = v := rfl
                  omega
              refine ⟨hok v v1 v2, hf, ?_, by omega, by simp at m2 ⊢; omega⟩
              have e1 : (regsOf op r.toNat t v).op = op := rfl
              have e2 : (regsOf op r.toNat t v).imm = v := rfl
              simp only [encL, e1, hs, e2, if_true, hreg, hn hpos]
              rw [show 1 + r.toNat + m = (r.toNat + m) + 1 from by omega, List.take_succ_cons, List.take_add]
            · cases h
        · rename_i hi'
          simp only [fin] at h
          split at h
          · rename_i hf
            simp only [Option.some.injEq, Prod.mk.injEq] at h
            obtain ⟨rfl, rfl⟩ := h
            refine ⟨hok 0 (by omega) (by omega), hf, ?_, by omega, by simp; omega⟩
            have e1 : (regsOf op r.toNat t 0).op = op := rfl
            simp only [encL, e1, hs, hi', hreg]
            simp [Nat.add_comm 1]
          · cases h
end Go.Proofs.YtnanlkoldloolaaDoor

/- Lists of instructions in memory, and their bytes one behind the other. -/
namespace Go.Proofs.YtnanlkoldloolaaDoor
open Go.RowKit

def cW : List W → List Value
  | [] => []
  | x :: r => .int .u8 x.op :: .int .u8 x.a :: .int .u8 x.b :: .int .u8 x.c :: .int .i64 x.imm :: cW r

theorem cW_length : ∀ l, (cW l).length = l.length * 5
  | [] => rfl
  | x :: r => by simp [cW, cW_length r]; omega
theorem cW_append : ∀ l r, cW (l ++ r) = cW l ++ cW r
  | [], r => rfl
  | x :: l, r => by simp [cW, cW_append l r]
theorem cW_at : ∀ (l : List W) (j : Nat) (h : j < l.length), (cW l)[j * 5]? = some (.int .u8 l[j].op) ∧ (cW l)[j * 5 + 1]? = some (.int .u8 l[j].a) ∧ (cW l)[j * 5 + 2]? = some (.int .u8 l[j].b) ∧ (cW l)[j * 5 + 3]? = some (.int .u8 l[j].c) ∧ (cW l)[j * 5 + 4]? = some (.int .i64 l[j].imm)
  | x :: r, 0, _ => by simp [cW]
  | x :: r, j + 1, h => by
    have ih := cW_at r j (by simpa using h)
    have e : (j + 1) * 5 = j * 5 + 1 + 1 + 1 + 1 + 1 := by omega
    rw [e]
    simpa [cW] using ih
theorem cW_one : ∀ (l : List W), ∀ u ∈ cW l, u.oneCell' = true
  | [], u, h => by simp [cW] at h
  | x :: r, u, h => by
    simp [cW] at h
    rcases h with rfl | rfl | rfl | rfl | rfl | h
    · rfl
    · rfl
    · rfl
    · rfl
    · rfl
    · exact cW_one r u h
theorem cW_take : ∀ (l : List W) (k : Nat), (cW l).take (k * 5) = cW (l.take k)
  | [], k => by simp [cW]
  | x :: r, 0 => by simp [cW]
  | x :: r, k + 1 => by
    have e : (k + 1) * 5 = k * 5 + 1 + 1 + 1 + 1 + 1 := by omega
    rw [e]
    simp [cW, cW_take r k]

def RdW (w : World) (v : Value) (l : List W) : Prop := Rd w 5 v l.length (cW l)

theorem RdW.split {w : World} {v : Value} {l : List W} (h : RdW w v l) :
    (∃ a c, v = .slice a 0 c ∧ l = []) ∨ ∃ b off c, v = .slice (some ⟨b, off, none⟩) l.length c ∧ 0 < l.length ∧ l.length ≤ c ∧ c ≤ 9223372036854775807 ∧ b < w.heap.size ∧
      ∀ j, (hj : j < l.length) → w.cell? ⟨b, off + j * 5, none⟩ = some (.int .u8 l[j].op) ∧ w.cell? ⟨b, off + j * 5 + 1, none⟩ = some (.int .u8 l[j].a) ∧ w.cell? ⟨b, off + j * 5 + 2, none⟩ = some (.int .u8 l[j].b) ∧ w.cell? ⟨b, off + j * 5 + 3, none⟩ = some (.int .u8 l[j].c) ∧ w.cell? ⟨b, off + j * 5 + 4, none⟩ = some (.int .i64 l[j].imm) := by
  rcases Rd.split h (by omega) with ⟨a, c, rfl, h0, _⟩ | ⟨b, off, c, rfl, h1, h2, h3, h4, h5⟩
  · exact .inl ⟨a, c, rfl, List.eq_nil_of_length_eq_zero h0⟩
  · refine .inr ⟨b, off, c, rfl, h1, h2, h3, h4, fun j hj => ?_⟩
    obtain ⟨e1, e2, e3, e4, e5⟩ := cW_at l j hj
    have hl := cW_length l
    obtain ⟨i1, e1⟩ := List.getElem?_eq_some_iff.1 e1
    obtain ⟨i2, e2⟩ := List.getElem?_eq_some_iff.1 e2
    obtain ⟨i3, e3⟩ := List.getElem?_eq_some_iff.1 e3
    obtain ⟨i4, e4⟩ := List.getElem?_eq_some_iff.1 e4
    obtain ⟨i5, e5⟩ := List.getElem?_eq_some_iff.1 e5
    refine ⟨?_, ?_, ?_, ?_, ?_⟩
    · rw [h5 _ i1, e1]
    · rw [Nat.add_assoc, h5 _ i2, e2]
    · rw [Nat.add_assoc, h5 _ i3, e3]
    · rw [Nat.add_assoc, h5 _ i4, e4]
    · rw [Nat.add_assoc, h5 _ i5, e5]

theorem RdW.take {w : World} {a : Option Addr} {c n k : Nat} {l : List W} (h : RdW w (.slice a n c) l) (hk : k ≤ n) (hn : n = l.length := by rfl) : RdW w (.slice a k c) (l.take k) := by
  subst hn
  have h2 := Rd.take h hk
  rw [cW_take] at h2
  unfold RdW
  rw [List.length_take, Nat.min_eq_left hk]
  exact h2

theorem encL_len (x : W) : (encL x).length ≤ 13 := by
  unfold encL
  rcases shp x.op with ⟨r, i, lo, hi, ok⟩
  have := nbL_le x.imm (x.op == 30)
  cases i <;> simp [numL, bytesL_length] <;> omega

/-- Their bytes. -/
def packL (l : List W) : List Int := l.flatMap encL

theorem packL_append (l r : List W) : packL (l ++ r) = packL l ++ packL r := by simp [packL]
theorem packL_take {l : List W} {j : Nat} (h : j < l.length) : packL (l.take (j + 1)) = packL (l.take j) ++ encL l[j] := by
  rw [List.take_succ_eq_append_getElem h, packL_append]; simp [packL]
theorem packL_length {l : List W} {k : Nat} (hl : l.length ≤ k) : (packL l).length ≤ k * 13 := by
  induction l generalizing k with
  | nil => simp [packL]
  | cons x r ih =>
    obtain ⟨m, rfl⟩ : ∃ m, k = m + 1 := ⟨k - 1, by simp at hl; omega⟩
    have := ih (k := m) (by simpa using hl)
    have h2 := encL_len x
    simp only [packL, List.flatMap_cons, List.length_append] at *
    omega
theorem packL_bd {l : List W} (h : ∀ x ∈ l, isB (encL x)) : isB (packL l) := by
  intro v hv
  simp only [packL, List.mem_flatMap] at hv
  obtain ⟨x, hx, hv⟩ := hv
  exact h x hx v hv

/-- Read one by one, until nothing is left: 3: somewhere there is none; 2: more than there is room for. -/
def unpF : Nat → Nat → List Int → Except Int (List W)
  | _, _, [] => .ok []
  | 0, _, _ :: _ => .error 0
  | f + 1, m, x :: p => match decS (x :: p) with
    | none => .error 3
    | some (y, n) => if m = 0 then .error 2 else (unpF f (m - 1) ((x :: p).drop n)).map (y :: ·)
def unpL (m : Nat) (p : List Int) : Except Int (List W) := unpF p.length m p

theorem unpF_cons (f m : Nat) (x : Int) (p : List Int) : unpF (f + 1) m (x :: p) = (match decS (x :: p) with
    | none => .error 3
    | some (y, n) => if m = 0 then .error 2 else (unpF f (m - 1) ((x :: p).drop n)).map (y :: ·)) := rfl
theorem unpF_enough : ∀ (f g m : Nat) (p : List Int), p.length ≤ f → p.length ≤ g → isB p → unpF f m p = unpF g m p
  | f, g, m, [], _, _, _ => by cases f <;> cases g <;> rfl
  | 0, _, m, x :: p, h, _, _ => by simp at h
  | _ + 1, 0, m, x :: p, _, h, _ => by simp at h
  | f + 1, g + 1, m, x :: p, h1, h2, hB => by
    rw [unpF_cons, unpF_cons]
    cases hd : decS (x :: p) with
    | none => rfl
    | some yn =>
      obtain ⟨y, n⟩ := yn
      obtain ⟨_, _, _, h5, h6⟩ := decS_some hB hd
      simp only [List.length_cons] at h1 h2 h6
      have hl : ((x :: p).drop n).length = p.length + 1 - n := by simp
      show ite _ _ _ = ite _ _ _
      rw [unpF_enough f g (m - 1) ((x :: p).drop n) (by omega) (by omega) (fun v hv => hB v (List.mem_of_mem_drop hv))]
theorem unpL_nil (m : Nat) : unpL m [] = .ok [] := rfl
theorem unpL_step {p : List Int} {y : W} {n m : Nat} (hB : isB p) (h : decS p = some (y, n)) : unpL (m + 1) p = (unpL m (p.drop n)).map (y :: ·) := by
  obtain ⟨_, _, _, h5, h6⟩ := decS_some hB h
  cases p with
  | nil => simp at h6; omega
  | cons x p =>
    unfold unpL
    rw [List.length_cons, unpF_cons, h]
    show Except.map _ _ = Except.map _ _
    simp only [List.length_cons] at h6
    rw [unpF_enough p.length ((x :: p).drop n).length _ ((x :: p).drop n) (by simp; omega) (by omega) (fun v hv => hB v (List.mem_of_mem_drop hv))]; rfl
theorem unpL_full {p : List Int} {y : W} {n : Nat} (hB : isB p) (h : decS p = some (y, n)) : unpL 0 p = .error 2 := by
  obtain ⟨_, _, _, h5, h6⟩ := decS_some hB h
  cases p with
  | nil => simp at h6; omega
  | cons x p =>
    unfold unpL
    rw [List.length_cons, unpF_cons, h]; rfl
theorem unpL_no {p : List Int} {m : Nat} (hp : p ≠ []) (h : decS p = none) : unpL m p = .error 3 := by
  cases p with
  | nil => exact absurd rfl hp
  | cons x p =>
    unfold unpL
    rw [List.length_cons, unpF_cons, h]
theorem unpL_pack : ∀ (l : List W) (m : Nat), l.length ≤ m → (∀ x ∈ l, x.ok) → l.all formB = true → (∀ x ∈ l, isB (encL x)) → unpL m (packL l) = .ok l
  | [], _, _, _, _, _ => rfl
  | x :: r, 0, hm, _, _, _ => by simp at hm
  | x :: r, m + 1, hm, hx, hf, hb => by
    simp only [List.all_cons, Bool.and_eq_true] at hf
    have hd := decS_enc x (hx x (by simp)) hf.1 (packL r)
    have hB : isB (encL x ++ packL r) := by
      intro v hv
      rcases List.mem_append.1 hv with h | h
      · exact hb x (by simp) v h
      · exact packL_bd (fun y hy => hb y (by simp [hy])) v h
    show unpL _ (encL x ++ packL r) = _
    rw [unpL_step hB hd, List.drop_left, unpL_pack r m (by simpa using hm) (fun y hy => hx y (by simp [hy])) hf.2 (fun y hy => hb y (by simp [hy]))]
    rfl
theorem unpL_over : ∀ (l : List W) (m : Nat), m < l.length → (∀ x ∈ l, x.ok) → l.all formB = true → (∀ x ∈ l, isB (encL x)) → unpL m (packL l) = .error 2
  | [], _, hm, _, _, _ => by simp at hm
  | x :: r, m, hm, hx, hf, hb => by
    simp only [List.all_cons, Bool.and_eq_true] at hf
    have hd := decS_enc x (hx x (by simp)) hf.1 (packL r)
    have hB : isB (encL x ++ packL r) := by
      intro v hv
      rcases List.mem_append.1 hv with h | h
      · exact hb x (by simp) v h
      · exact packL_bd (fun y hy => hb y (by simp [hy])) v h
    show unpL _ (encL x ++ packL r) = _
    cases m with
    | zero => exact unpL_full hB hd
    | succ m =>
      rw [unpL_step hB hd, List.drop_left, unpL_over r m (by simpa using hm) (fun y hy => hx y (by simp [hy])) hf.2 (fun y hy => hb y (by simp [hy]))]
      rfl
end Go.Proofs.YtnanlkoldloolaaDoor

/- Vet: an instruction looked at; all instructions. -/
namespace Go.Proofs.YtnanlkoldloolaaDoor
open Go.RowKit

/-- What an instruction's number must stay below; -1: nothing. -/
def limE (nw ne s op : Int) : Int := if op == 32 || op == 33 then s else if op == 41 then ne else if op == 45 || op == 46 then nw else -1
def wordE (nw ne s : Int) (x : W) : Int := if formB x then (if decide (0 ≤ limE nw ne s x.op) && decide (limE nw ne s x.op ≤ x.imm) then 17 else 0) else 3

def imgV (wa : Option Addr) (wn wc : Nat) (ea : Option Addr) (en ec : Nat) (m : Int) (da : Option Addr) (dn dc : Nat) : Value := .agg #[.slice wa wn wc, .slice ea en ec, .int .i64 m, .slice da dn dc]

set_option maxHeartbeats 4000000 in
theorem word_any (wa : Option Addr) (wn wc : Nat) (ea : Option Addr) (en ec : Nat) (m : Int) (da : Option Addr) (dn dc : Nat) (x : W) (s : Int) (w : World) :
   Calls Tryd.prog 26 #[.agg #[.slice wa wn wc, .slice ea en ec, .int .i64 m, .slice da dn dc], .agg #[.int .u8 x.op, .int .u8 x.a, .int .u8 x.b, .int .u8 x.c, .int .i64 x.imm], .int .i64 s] w fun e w' => e = .returned (.int .i64 (wordE wn en s x)) ∧ Below w.heap.size w w' := by
  obtain ⟨op, a, b, c, imm⟩ := x
  have HF := Lib.hid (fun w => iform_any op a b c imm w)
  go_enter Tryd.func26, Tryd.ntmps26
  go_wp2_with fail
  all_goals
    refine (HF.out _).mono ?_
    rintro e w1 ⟨rfl, hb⟩
    obtain ⟨hc, hf⟩ := bcell hb
    have hz : w.heap.size < w1.heap.size := by have := hb.size; simp at this; omega
    have HB := Lib.hid ((((Below.refl w.heap.size w).alloc (Nat.le_refl _) _).alloc (by simp) _).trans (hb.mono (show w.heap.size ≤ _ by simp; omega)))
    clear hb
    obtain ⟨fb, hfb⟩ : ∃ fb, formB ⟨op, a, b, c, imm⟩ = fb := ⟨_, rfl⟩
    rw [hfb]
    have HFB := Lib.hid hfb
    clear hfb
    cases fb
    all_goals go_wp2_with fail
    all_goals go_ret
    all_goals refine ⟨?_, HB.out⟩
    all_goals (have HH := HFB.out; clear HFB HF HB hc hf hz; go_light; simp [wordE, limE, *] <;> omega)
end Go.Proofs.YtnanlkoldloolaaDoor

/- Vet: all instructions. -/
namespace Go.Proofs.YtnanlkoldloolaaDoor
open Go.RowKit

/-- What 'words' answers of a list that isn't empty. -/
def WordsIs (nw ne s : Int) (l : List W) (at' er : Int) : Prop :=
  (∃ j, ∃ h : j < l.length, wordE nw ne s l[j] ≠ 0 ∧ (∀ i (hi : i < l.length), i < j → wordE nw ne s l[i] = 0) ∧ at' = j ∧ er = wordE nw ne s l[j]) ∨
  ((∀ x ∈ l, wordE nw ne s x = 0) ∧ ∃ h : 0 < l.length, if (l[l.length - 1]'(by omega)).op = 45 ∨ (l[l.length - 1]'(by omega)).op = 47 then at' = 0 ∧ er = 0 else at' = l.length - 1 ∧ er = 3)

theorem wordsIs_end {nw ne s : Int} {l : List W} {n : Nat} {op at' er : Int} (h : n + 1 = l.length) (hall : ∀ i (hi : i < l.length), i < l.length → wordE nw ne s l[i] = 0) (hop : (l[n]'(by omega)).op = op) (hh : if op = 45 ∨ op = 47 then at' = 0 ∧ er = 0 else at' = n ∧ er = 3) : WordsIs nw ne s l at' er := by
  refine .inr ⟨fun x hx => ?_, by omega, ?_⟩
  · obtain ⟨i, hi, rfl⟩ := List.getElem_of_mem hx
    exact hall i hi hi
  · have e : l.length - 1 = n := by omega
    have e2 : (l[l.length - 1]'(by omega)).op = op := by simp only [e]; exact hop
    have e3 : (l.length : Int) - 1 = n := by omega
    rw [e2, e3]
    exact hh

set_option maxHeartbeats 4000000 in
theorem words_any (wv : Value) (l : List W) (ea : Option Addr) (en ec : Nat) (m : Int) (da : Option Addr) (dn dc : Nat) (s : Int) (w : World) (hv : RdW w wv l) (hl : 0 < l.length) (hn : l.length ≤ 262144) :
   Calls Tryd.prog 18 #[.agg #[wv, .slice ea en ec, .int .i64 m, .slice da dn dc], .int .i64 s] w fun e w' => (∃ at' er : Int, WordsIs l.length en s l at' er ∧ e = .returned (.tuple #[.int .i64 at', .int .i64 er])) ∧ Below w.heap.size w w' := by
  rcases hv.split with ⟨a, c, rfl, rfl⟩ | ⟨b, off, c, rfl, hp, hlc, hc9, hb, hcell⟩
  · simp at hl
  have HC := Lib.hid hcell
  clear hcell hv hl
  go_enter Tryd.func18, Tryd.ntmps18
  go_wp2_with fail
  go_loopw [14] (fun i wr => ∃ j : Nat, j ≤ l.length ∧ i = .int .i64 j ∧ (∀ i (hi : i < l.length), i < j → wordE l.length en s l[i] = 0) ∧ Below (w.heap.size + 1) (w.alloc (.cells #[.slice (some ⟨b, off, none⟩) l.length c, .slice ea en ec, .int .i64 m, .slice da dn dc] 26)) wr) (fun i _ => l.length - (intOf i).toNat)
  case atStart => exact ⟨0, by omega, rfl, fun i _ h => absurd h (by omega), Below.refl _ _⟩
  case round =>
    obtain ⟨j, hj, rfl, hall, hbel⟩ := hrel
    have HA := Lib.hid hall
    have HB := Lib.hid hbel
    have hs1 : w.heap.size + 1 ≤ wr.heap.size := by simpa using hbel.size
    have hs2 : w.heap.size < wr.heap.size := by omega
    have k0 : wr.cell? ⟨w.heap.size, 0, none⟩ = some (.slice (some ⟨b, off, none⟩) l.length c) := by rw [hbel.cell (by simp)]; simp
    have k1 : wr.cell? ⟨w.heap.size, 1, none⟩ = some (.slice ea en ec) := by rw [hbel.cell (by simp)]; simp
    have k2 : wr.cell? ⟨w.heap.size, 2, none⟩ = some (.int .i64 m) := by rw [hbel.cell (by simp)]; simp
    have k3 : wr.cell? ⟨w.heap.size, 3, none⟩ = some (.slice da dn dc) := by rw [hbel.cell (by simp)]; simp
    have hcl : ∀ p : Addr, p.block < w.heap.size → wr.cell? p = w.cell? p := fun p hp => by
      rw [hbel.cell (by omega)]; exact World.cell?_alloc_lt _ _ _ hp
    clear hall hbel
    by_cases hlt : j < l.length
    · obtain ⟨d0, d1, d2, d3, d4⟩ := HC.out j hlt
      rw [← hcl ⟨b, off + j * 5, none⟩ hb] at d0
      rw [← hcl ⟨b, off + j * 5 + 1, none⟩ hb] at d1
      rw [← hcl ⟨b, off + j * 5 + 2, none⟩ hb] at d2
      rw [← hcl ⟨b, off + j * 5 + 3, none⟩ hb] at d3
      rw [← hcl ⟨b, off + j * 5 + 4, none⟩ hb] at d4
      clear hcl
      obtain ⟨x, hx⟩ : ∃ x, l[j] = x := ⟨_, rfl⟩
      have HX := Lib.hid hx
      rw [hx] at d0 d1 d2 d3 d4
      clear hx
      have HW := Lib.hid (fun w => word_any (some ⟨b, off, none⟩) l.length c ea en ec m da dn dc x s w)
      go_wp2_with fail
      refine (HW.out _).mono ?_
      rintro e w3 ⟨rfl, hb3⟩
      have hz3 : w.heap.size + 1 + 1 ≤ w3.heap.size := by have := hb3.size; simp at this; omega
      have HB3 : Hid (Below (w.heap.size + 1) (w.alloc (.cells #[.slice (some ⟨b, off, none⟩) l.length c, .slice ea en ec, .int .i64 m, .slice da dn dc] 26)) w3) :=
        (HB.out.alloc hs1 _).trans (hb3.mono (by simp; omega))
      clear hb3
      obtain ⟨er, her⟩ : ∃ er, wordE l.length en s x = er := ⟨_, rfl⟩
      have HER := Lib.hid her
      rw [her]
      clear her HW
      by_cases h0 : er = 0
      · subst h0
        go_wp2_with fail
        refine ⟨⟨j + 1, by omega, by go_num, fun i hi hij => ?_, HB3.out⟩, by simp [intOf]; omega⟩
        by_cases hij2 : i < j
        · exact HA.out i hi hij2
        · obtain rfl : i = j := by omega
          rw [HX.out]; exact HER.out
      · go_wp2_with fail
        go_ret2
        exact ⟨⟨j, er, .inl ⟨j, hlt, by rw [HX.out, HER.out]; exact h0, HA.out, rfl, by rw [HX.out]; exact HER.out.symm⟩, rfl⟩, ((Below.refl _ _).alloc (Nat.le_refl _) _).trans (HB3.out.mono (by omega))⟩
    · obtain rfl : j = l.length := by omega
      obtain ⟨n, hn1⟩ : ∃ n, n + 1 = l.length := ⟨l.length - 1, by omega⟩
      have hlt2 : n < l.length := by omega
      obtain ⟨d0, -, -, -, -⟩ := HC.out n hlt2
      rw [← hcl ⟨b, off + n * 5, none⟩ hb] at d0
      obtain ⟨op, hop⟩ : ∃ op, l[n].op = op := ⟨_, rfl⟩
      rw [hop] at d0
      have HOP := Lib.hid hop
      clear hop hcl
      have hL1 : (l.length : Int) - 1 = (n : Int) := by omega
      have HN1 := Lib.hid hn1
      clear hn1
      go_wp2_with fail
      all_goals go_ret2
      all_goals refine ⟨⟨_, _, wordsIs_end HN1.out HA.out HOP.out ?_, rfl⟩, ((Below.refl _ _).alloc (Nat.le_refl _) _).trans (HB.out.mono (by omega))⟩
      all_goals simp_all
end Go.Proofs.YtnanlkoldloolaaDoor

/- Vet: all entries. -/
namespace Go.Proofs.YtnanlkoldloolaaDoor
open Go.RowKit

def cE : List (Int × Int) → List Value
  | [] => []
  | x :: r => .int .i64 x.1 :: .int .i64 x.2 :: cE r

theorem cE_length : ∀ l, (cE l).length = l.length * 2
  | [] => rfl
  | x :: r => by simp [cE, cE_length r]; omega
theorem cE_at : ∀ (l : List (Int × Int)) (j : Nat) (h : j < l.length), (cE l)[j * 2]? = some (.int .i64 l[j].1) ∧ (cE l)[j * 2 + 1]? = some (.int .i64 l[j].2)
  | x :: r, 0, _ => by simp [cE]
  | x :: r, j + 1, h => by
    have ih := cE_at r j (by simpa using h)
    have e : (j + 1) * 2 = j * 2 + 1 + 1 := by omega
    rw [e]
    simpa [cE] using ih

def RdE (w : World) (v : Value) (l : List (Int × Int)) : Prop := Rd w 2 v l.length (cE l)

theorem RdE.split {w : World} {v : Value} {l : List (Int × Int)} (h : RdE w v l) :
    (∃ a c, v = .slice a 0 c ∧ l = []) ∨ ∃ b off c, v = .slice (some ⟨b, off, none⟩) l.length c ∧ 0 < l.length ∧ l.length ≤ c ∧ c ≤ 9223372036854775807 ∧ b < w.heap.size ∧
      ∀ j, (hj : j < l.length) → w.cell? ⟨b, off + j * 2, none⟩ = some (.int .i64 l[j].1) ∧ w.cell? ⟨b, off + j * 2 + 1, none⟩ = some (.int .i64 l[j].2) := by
  rcases Rd.split h (by omega) with ⟨a, c, rfl, h0, _⟩ | ⟨b, off, c, rfl, h1, h2, h3, h4, h5⟩
  · exact .inl ⟨a, c, rfl, List.eq_nil_of_length_eq_zero h0⟩
  · refine .inr ⟨b, off, c, rfl, h1, h2, h3, h4, fun j hj => ?_⟩
    obtain ⟨e1, e2⟩ := cE_at l j hj
    obtain ⟨i1, e1⟩ := List.getElem?_eq_some_iff.1 e1
    obtain ⟨i2, e2⟩ := List.getElem?_eq_some_iff.1 e2
    refine ⟨?_, ?_⟩
    · rw [h5 _ i1, e1]
    · rw [Nat.add_assoc, h5 _ i2, e2]

def entBad (nw : Nat) (x : Int × Int) : Bool := decide (x.2 < 0) || decide (60000 < x.2) || decide (x.1 < 0) || decide ((nw : Int) ≤ x.1)
def mostE (l : List (Int × Int)) : Int := l.foldl (fun m x => if m < x.2 then x.2 else m) 0
theorem mostE_take {l : List (Int × Int)} {j : Nat} (h : j < l.length) : mostE (l.take (j + 1)) = (if mostE (l.take j) < l[j].2 then l[j].2 else mostE (l.take j)) := by
  unfold mostE
  rw [List.take_succ_eq_append_getElem h, List.foldl_append]
  rfl

def EntriesIs (nw : Nat) (l : List (Int × Int)) (most at' er : Int) : Prop :=
  (∃ j, ∃ h : j < l.length, entBad nw l[j] = true ∧ (∀ i (hi : i < l.length), i < j → entBad nw l[i] = false) ∧ most = 0 ∧ at' = j ∧ er = 17) ∨
  ((∀ x ∈ l, entBad nw x = false) ∧ most = mostE l ∧ at' = 0 ∧ er = 0)

set_option maxHeartbeats 4000000 in
theorem entries_any (ev : Value) (l : List (Int × Int)) (wa : Option Addr) (wn wc : Nat) (m : Int) (da : Option Addr) (dn dc : Nat) (w : World) (hv : RdE w ev l) :
   Calls Tryd.prog 17 #[.agg #[.slice wa wn wc, ev, .int .i64 m, .slice da dn dc]] w fun e w' => (∃ most at' er : Int, EntriesIs wn l most at' er ∧ e = .returned (.tuple #[.int .i64 most, .int .i64 at', .int .i64 er])) ∧ Below w.heap.size w w' := by
  have hl9 : l.length ≤ 9223372036854775807 := Rd.le hv
  rcases hv.split with ⟨a, c, rfl, rfl⟩ | ⟨b, off, c, rfl, hp, hlc, hc9, hb, hcell⟩
  · clear hv
    go_enter Tryd.func17, Tryd.ntmps17
    go_wp2_with fail
    refine wp_loop_rounds 1 ?_
    rw [rounds_succ]
    go_wp2_with fail
    go_ret3
    exact ⟨⟨_, _, _, .inr ⟨fun x hx => (nomatch hx), rfl, rfl, rfl⟩, rfl⟩, (Below.refl _ _).alloc (Nat.le_refl _) _⟩
  have HC := Lib.hid hcell
  clear hcell hv
  go_enter Tryd.func17, Tryd.ntmps17
  go_wp2_with fail
  go_loopw [11, 5] (fun i mo wr => ∃ j : Nat, j ≤ l.length ∧ i = .int .i64 j ∧ mo = .int .i64 (mostE (l.take j)) ∧ (∀ i (hi : i < l.length), i < j → entBad wn l[i] = false) ∧ Below (w.heap.size + 1) (w.alloc (.cells #[.slice wa wn wc, .slice (some ⟨b, off, none⟩) l.length c, .int .i64 m, .slice da dn dc] 26)) wr) (fun i _ _ => l.length - (intOf i).toNat)
  case atStart => exact ⟨0, by omega, rfl, rfl, fun i _ h => absurd h (by omega), Below.refl _ _⟩
  case round =>
    obtain ⟨j, hj, rfl, rfl, hall, hbel⟩ := hrel
    have HA := Lib.hid hall
    have HB := Lib.hid hbel
    have hs1 : w.heap.size + 1 ≤ wr.heap.size := by simpa using hbel.size
    have hs2 : w.heap.size < wr.heap.size := by omega
    have k0 : wr.cell? ⟨w.heap.size, 0, none⟩ = some (.slice wa wn wc) := by rw [hbel.cell (by simp)]; simp
    have hcl : ∀ p : Addr, p.block < w.heap.size → wr.cell? p = w.cell? p := fun p hp => by
      rw [hbel.cell (by omega)]; exact World.cell?_alloc_lt _ _ _ hp
    clear hall hbel
    obtain ⟨mo, hmo⟩ : ∃ mo, mostE (l.take j) = mo := ⟨_, rfl⟩
    have HMO := Lib.hid hmo
    rw [hmo]
    clear hmo
    by_cases hlt : j < l.length
    · obtain ⟨d0, d1⟩ := HC.out j hlt
      rw [← hcl ⟨b, off + j * 2, none⟩ hb] at d0
      rw [← hcl ⟨b, off + j * 2 + 1, none⟩ hb] at d1
      clear hcl
      obtain ⟨x, hx⟩ : ∃ x, l[j] = x := ⟨_, rfl⟩
      have HX := Lib.hid hx
      rw [hx] at d0 d1
      clear hx
      have HM : Hid (mostE (l.take (j + 1)) = if mo < x.2 then x.2 else mo) := by have := mostE_take hlt; rw [HMO.out, HX.out] at this; exact this
      have HB3 : ∀ o, Hid (Below (w.heap.size + 1) (w.alloc (.cells #[.slice wa wn wc, .slice (some ⟨b, off, none⟩) l.length c, .int .i64 m, .slice da dn dc] 26)) (wr.alloc o)) := fun o => HB.out.alloc hs1 _
      go_wp2_with fail
      all_goals first
        | (go_ret3; exact ⟨⟨0, j, 17, .inl ⟨j, hlt, by rw [HX.out]; simp [entBad]; omega, HA.out, rfl, rfl, rfl⟩, rfl⟩, ((Below.refl _ _).alloc (Nat.le_refl _) _).trans ((HB3 _).out.mono (by omega))⟩)
        | (refine ⟨⟨j + 1, by omega, by go_num, by rw [HM.out], fun i hi hij => ?_, (HB3 _).out⟩, by simp [intOf]; omega⟩
           by_cases hij2 : i < j
           · exact HA.out i hi hij2
           · obtain rfl : i = j := by omega
             rw [HX.out]; simp [entBad]; omega)
    · obtain rfl : j = l.length := by omega
      go_wp2_with fail
      go_ret3
      refine ⟨⟨_, _, _, .inr ⟨fun x hx => ?_, ?_, rfl, rfl⟩, rfl⟩, ((Below.refl _ _).alloc (Nat.le_refl _) _).trans (HB.out.mono (by omega))⟩
      · obtain ⟨i, hi, rfl⟩ := List.getElem_of_mem hx
        exact HA.out i hi hi
      · rw [← HMO.out, List.take_length]
end Go.Proofs.YtnanlkoldloolaaDoor

/- Maps from numbers to numbers, and sets of numbers, as functions. -/
namespace Go.Proofs.YtnanlkoldloolaaDoor
open Go.RowKit Go.Maps

abbrev inR (x : Int) : Prop := -9223372036854775808 ≤ x ∧ x ≤ 9223372036854775807

theorem wfI {x : Int} (h : inR x) : (Lit.int .i64 x).wf = true := by
  simp [Lit.wf, IntKind.min, IntKind.max, IntKind.signed, IntKind.bits]; omega
theorem lawI : Keyed Tryd.prog 3 := int_keyed Tryd.underlying3
theorem zeroI (w : World) : (zeroValue 3).run Tryd.prog w = .ok (.int .i64 0) w := by kernel_rfl
theorem zeroU (w : World) : (zeroValue 76).run Tryd.prog w = .ok (.agg #[]) w := by kernel_rfl
theorem keyI {x : Int} (h : inR x) : keyOf Tryd.prog 3 (.int .i64 x) = some (.int .i64 x) := keyOf_int_mk Tryd.underlying3 (wfI h)
theorem isKeyI {x : Int} (h : inR x) : WideAt.IsKeyLit (.int .i64 x) := lawI.key (keyI h)

/-- Block b is a set of at most n numbers. -/
def SetAt (w : World) (b n : Nat) (s : Int → Bool) : Prop :=
  ∃ D : DataW Unit, w.ownsMap Tryd.prog 3 unitElem b n D ∧ ∀ x, inR x → Maps.has D (.int .i64 x) = s x

def upd {α : Type} (f : Int → α) (k : Int) (v : α) : Int → α := fun x => if x = k then v else f x
theorem upd_same {α : Type} (f : Int → α) (k : Int) (v : α) : upd f k v k = v := by simp [upd]
theorem upd_other {α : Type} (f : Int → α) {k x : Int} (v : α) (h : x ≠ k) : upd f k v x = f x := by simp [upd, h]

theorem SetAt.made (w : World) : SetAt (w.alloc (.map #[] 0)) w.heap.size 0 (fun _ => false) :=
  ⟨.map [], World.ownsMap_made _ _ _ _, fun _ _ => rfl⟩
section
variable {w : World} {b n : Nat} {f : Int → Option Int} {s : Int → Bool}
theorem SetAt.lt (h : SetAt w b n s) : b < w.heap.size := by obtain ⟨D, h, _⟩ := h; exact h.lt
theorem SetAt.kept {w' : World} {row : Option Nat} (h : SetAt w b n s) (hg : w.grownBy w' row) (hne : some b ≠ row) : SetAt w' b n s := by
  obtain ⟨D, h, h2⟩ := h; exact ⟨D, h.kept hg hne, h2⟩
theorem SetAt.alloc (h : SetAt w b n s) (o : Obj) : SetAt (w.alloc o) b n s := by obtain ⟨D, h, h2⟩ := h; exact ⟨D, h.alloc o, h2⟩
theorem SetAt.setCell (h : SetAt w b n s) {a : Addr} (ha : b ≠ a.block) (u : Value) : SetAt (w.setCell a u) b n s := by obtain ⟨D, h, h2⟩ := h; exact ⟨D, h.setCell ha u, h2⟩
theorem SetAt.mono (h : SetAt w b n s) {n' : Nat} (hn : n ≤ n') : SetAt w b n' s := by obtain ⟨D, h, h2⟩ := h; exact ⟨D, h.mono hn, h2⟩
theorem SetAt.look_ok (h : SetAt w b n s) {x : Int} (hx : inR x) : (Instr.lookup 75 (.map (some b)) (.int .i64 x) true).run Tryd.prog w = .ok (.tuple #[.agg #[], .bool (s x)]) w := by
  obtain ⟨D, h, h2⟩ := h
  obtain ⟨v, ps, hrun, hv⟩ := h.look_ok lawI Tryd.underlying75 (zeroU w) (zd := .agg []) (zp := []) unitElem_mk (keyI hx)
  obtain ⟨rfl, _⟩ := unitElem_inv hv
  rw [hrun, h2 x hx]
theorem SetAt.add (h : SetAt w b n s) (hn : n < maxLen) {x : Int} (hx : inR x) : ∃ w', (Instr.mapUpdate 75 (.map (some b)) (.int .i64 x) (.agg #[])).run Tryd.prog w = .ok () w' ∧ SetAt w' b (n + 1) (upd s x true) ∧ w.grownBy w' (some b) := by
  obtain ⟨D, h, h2⟩ := h
  obtain ⟨w', hrun, h3, h4⟩ := h.store lawI Tryd.underlying75 hn (keyI hx) unitElem_mk
  refine ⟨w', hrun, ⟨_, h3, fun z hz => ?_⟩, h4.grown⟩
  by_cases e : z = x
  · subst e
    rw [upd_same]
    exact has_put_same h.isMap (isKeyI hx) _
  · rw [upd_other _ _ e]
    have hne : (Lit.int .i64 z) ≠ .int .i64 x := by simp [e]
    rw [has_put_other hne]
    exact h2 z hz
end
section
variable (w : World) {ops : Array Oper} {rest : List Oper} {o : Oper} {a : Act} {Q : Exit → Act → World → Prop}
theorem wp_seen (hg : o.guard = none) (m x : Operand) (hop : o.op = Op.lookup 75 m x true) (b n : Nat) (s : Int → Bool) (hm : a.eval m = .map (some b)) (h : SetAt w b n s) (key : Int) (hx : a.eval x = .int .i64 key) (hr : inR key) (ok : Bool) (hok : s key = ok)
    (hK : wpList Tryd.prog ops Q rest (a.put o.dst (.tuple #[.agg #[], .bool ok])) w) : wpList Tryd.prog ops Q (o :: rest) a w := by
  refine wpList_plain hg fun K' hK' => ?_
  have hrun := h.look_ok hr
  rw [hok] at hrun
  unfold Oper.wp
  simp [execOp, hop, hm, hx, hrun, Result.andThen]
  exact hK' _ _ hK
theorem wp_add (hg : o.guard = none) (m x v : Operand) (hop : o.op = Op.mapUpdate 75 m x v) (b n : Nat) (s : Int → Bool) (hm : a.eval m = .map (some b)) (h : SetAt w b n s) (hn : n < maxLen) (key : Int) (hx : a.eval x = .int .i64 key) (hv : a.eval v = .agg #[]) (hr : inR key)
    (hK : ∀ w', SetAt w' b (n + 1) (upd s key true) → w.grownBy w' (some b) → wpList Tryd.prog ops Q rest (a.put o.dst undef) w') : wpList Tryd.prog ops Q (o :: rest) a w := by
  refine wpList_plain hg fun K' hK' => ?_
  obtain ⟨w', hrun, h1, h2⟩ := h.add hn hr
  unfold Oper.wp
  simp [execOp, hop, hm, hx, hv, hrun, Result.andThen]
  exact hK' _ _ (hK w' h1 h2)
end
end Go.Proofs.YtnanlkoldloolaaDoor
