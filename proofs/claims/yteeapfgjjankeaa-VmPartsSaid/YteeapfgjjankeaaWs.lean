/- Lists of instructions in memory, and their bytes one behind the other. -/
import Derived.Test.YteeapfgjjankeaaL
import Derived.Test.YteeapfgjjankeaaU
import Derived.Test.YteeapfgjjankeaaProg
import Derived.Deep.LoopGhost
namespace Go.Proofs.Yteeapfgjjankeaa
open Go.RowKit

def cW : List W → List Value
  | [] => []
  | x :: r => .int .u8 x.op :: .int .u8 x.a :: .int .u8 x.b :: .int .u8 x.c :: .int .i64 x.imm :: cW r

theorem cW_length : ∀ l, (cW l).length = l.length * 5
  | [] => rfl
  | x :: r => by simp [cW, cW_length r]; omega
theorem cW_append : ∀ l r, cW (l ++ r) = cW l ++ cW r
  | [], r => rfl
  | x :: l, r => by simp [cW, cW_append l r]
theorem cW_at : ∀ (l : List W) (j : Nat) (h : j < l.length), (cW l)[j * 5]? = some (.int .u8 l[j].op) ∧ (cW l)[j * 5 + 1]? = some (.int .u8 l[j].a) ∧ (cW l)[j * 5 + 2]? = some (.int .u8 l[j].b) ∧ (cW l)[j * 5 + 3]? = some (.int .u8 l[j].c) ∧ (cW l)[j * 5 + 4]? = some (.int .i64 l[j].imm)
  | x :: r, 0, _ => by simp [cW]
  | x :: r, j + 1, h => by
    have ih := cW_at r j (by simpa using h)
    have e : (j + 1) * 5 = j * 5 + 1 + 1 + 1 + 1 + 1 := by omega
    rw [e]
    simpa [cW] using ih
theorem cW_one : ∀ (l : List W), ∀ u ∈ cW l, u.oneCell' = true
  | [], u, h => by simp [cW] at h
  | x :: r, u, h => by
    simp [cW] at h
    rcases h with rfl | rfl | rfl | rfl | rfl | h
    · rfl
    · rfl
    · rfl
    · rfl
    · rfl
    · exact cW_one r u h
theorem cW_take : ∀ (l : List W) (k : Nat), (cW l).take (k * 5) = cW (l.take k)
  | [], k => by simp [cW]
  | x :: r, 0 => by simp [cW]
  | x :: r, k + 1 => by
    have e : (k + 1) * 5 = k * 5 + 1 + 1 + 1 + 1 + 1 := by omega
    rw [e]
    simp [cW, cW_take r k]

def RdW (w : World) (v : Value) (l : List W) : Prop := Rd w 5 v l.length (cW l)

theorem RdW.split {w : World} {v : Value} {l : List W} (h : RdW w v l) :
    (∃ a c, v = .slice a 0 c ∧ l = []) ∨ ∃ b off c, v = .slice (some ⟨b, off, none⟩) l.length c ∧ 0 < l.length ∧ l.length ≤ c ∧ c ≤ 9223372036854775807 ∧ b < w.heap.size ∧
      ∀ j, (hj : j < l.length) → w.cell? ⟨b, off + j * 5, none⟩ = some (.int .u8 l[j].op) ∧ w.cell? ⟨b, off + j * 5 + 1, none⟩ = some (.int .u8 l[j].a) ∧ w.cell? ⟨b, off + j * 5 + 2, none⟩ = some (.int .u8 l[j].b) ∧ w.cell? ⟨b, off + j * 5 + 3, none⟩ = some (.int .u8 l[j].c) ∧ w.cell? ⟨b, off + j * 5 + 4, none⟩ = some (.int .i64 l[j].imm) := by
  rcases Rd.split h (by omega) with ⟨a, c, rfl, h0, _⟩ | ⟨b, off, c, rfl, h1, h2, h3, h4, h5⟩
  · exact .inl ⟨a, c, rfl, List.eq_nil_of_length_eq_zero h0⟩
  · refine .inr ⟨b, off, c, rfl, h1, h2, h3, h4, fun j hj => ?_⟩
    obtain ⟨e1, e2, e3, e4, e5⟩ := cW_at l j hj
    have hl := cW_length l
    obtain ⟨i1, e1⟩ := List.getElem?_eq_some_iff.1 e1
    obtain ⟨i2, e2⟩ := List.getElem?_eq_some_iff.1 e2
    obtain ⟨i3, e3⟩ := List.getElem?_eq_some_iff.1 e3
    obtain ⟨i4, e4⟩ := List.getElem?_eq_some_iff.1 e4
    obtain ⟨i5, e5⟩ := List.getElem?_eq_some_iff.1 e5
    refine ⟨?_, ?_, ?_, ?_, ?_⟩
    · rw [h5 _ i1, e1]
    · rw [Nat.add_assoc, h5 _ i2, e2]
    · rw [Nat.add_assoc, h5 _ i3, e3]
    · rw [Nat.add_assoc, h5 _ i4, e4]
    · rw [Nat.add_assoc, h5 _ i5, e5]

theorem RdW.take {w : World} {a : Option Addr} {c n k : Nat} {l : List W} (h : RdW w (.slice a n c) l) (hk : k ≤ n) (hn : n = l.length := by rfl) : RdW w (.slice a k c) (l.take k) := by
  subst hn
  have h2 := Rd.take h hk
  rw [cW_take] at h2
  unfold RdW
  rw [List.length_take, Nat.min_eq_left hk]
  exact h2

theorem encL_len (x : W) : (encL x).length ≤ 13 := by
  unfold encL
  rcases shp x.op with ⟨r, i, lo, hi, ok⟩
  have := nbL_le x.imm (x.op == 30)
  cases i <;> simp [numL, bytesL_length] <;> omega

/-- Their bytes. -/
def packL (l : List W) : List Int := l.flatMap encL

theorem packL_append (l r : List W) : packL (l ++ r) = packL l ++ packL r := by simp [packL]
theorem packL_take {l : List W} {j : Nat} (h : j < l.length) : packL (l.take (j + 1)) = packL (l.take j) ++ encL l[j] := by
  rw [List.take_succ_eq_append_getElem h, packL_append]; simp [packL]
theorem packL_length {l : List W} {k : Nat} (hl : l.length ≤ k) : (packL l).length ≤ k * 13 := by
  induction l generalizing k with
  | nil => simp [packL]
  | cons x r ih =>
    obtain ⟨m, rfl⟩ : ∃ m, k = m + 1 := ⟨k - 1, by simp at hl; omega⟩
    have := ih (k := m) (by simpa using hl)
    have h2 := encL_len x
    simp only [packL, List.flatMap_cons, List.length_append] at *
    omega
theorem packL_bd {l : List W} (h : ∀ x ∈ l, isB (encL x)) : isB (packL l) := by
  intro v hv
  simp only [packL, List.mem_flatMap] at hv
  obtain ⟨x, hx, hv⟩ := hv
  exact h x hx v hv

/-- Read one by one, until nothing is left: 3: somewhere there is none; 2: more than there is room for. -/
def unpF : Nat → Nat → List Int → Except Int (List W)
  | _, _, [] => .ok []
  | 0, _, _ :: _ => .error 0
  | f + 1, m, x :: p => match decS (x :: p) with
    | none => .error 3
    | some (y, n) => if m = 0 then .error 2 else (unpF f (m - 1) ((x :: p).drop n)).map (y :: ·)
def unpL (m : Nat) (p : List Int) : Except Int (List W) := unpF p.length m p

theorem unpF_cons (f m : Nat) (x : Int) (p : List Int) : unpF (f + 1) m (x :: p) = (match decS (x :: p) with
    | none => .error 3
    | some (y, n) => if m = 0 then .error 2 else (unpF f (m - 1) ((x :: p).drop n)).map (y :: ·)) := rfl
theorem unpF_enough : ∀ (f g m : Nat) (p : List Int), p.length ≤ f → p.length ≤ g → isB p → unpF f m p = unpF g m p
  | f, g, m, [], _, _, _ => by cases f <;> cases g <;> rfl
  | 0, _, m, x :: p, h, _, _ => by simp at h
  | _ + 1, 0, m, x :: p, _, h, _ => by simp at h
  | f + 1, g + 1, m, x :: p, h1, h2, hB => by
    rw [unpF_cons, unpF_cons]
    cases hd : decS (x :: p) with
    | none => rfl
    | some yn =>
      obtain ⟨y, n⟩ := yn
      obtain ⟨_, _, _, h5, h6⟩ := decS_some hB hd
      simp only [List.length_cons] at h1 h2 h6
      have hl : ((x :: p).drop n).length = p.length + 1 - n := by simp
      show ite _ _ _ = ite _ _ _
      rw [unpF_enough f g (m - 1) ((x :: p).drop n) (by omega) (by omega) (fun v hv => hB v (List.mem_of_mem_drop hv))]
theorem unpL_nil (m : Nat) : unpL m [] = .ok [] := rfl
theorem unpL_step {p : List Int} {y : W} {n m : Nat} (hB : isB p) (h : decS p = some (y, n)) : unpL (m + 1) p = (unpL m (p.drop n)).map (y :: ·) := by
  obtain ⟨_, _, _, h5, h6⟩ := decS_some hB h
  cases p with
  | nil => simp at h6; omega
  | cons x p =>
    unfold unpL
    rw [List.length_cons, unpF_cons, h]
    show Except.map _ _ = Except.map _ _
    simp only [List.length_cons] at h6
    rw [unpF_enough p.length ((x :: p).drop n).length _ ((x :: p).drop n) (by simp; omega) (by omega) (fun v hv => hB v (List.mem_of_mem_drop hv))]; rfl
theorem unpL_full {p : List Int} {y : W} {n : Nat} (hB : isB p) (h : decS p = some (y, n)) : unpL 0 p = .error 2 := by
  obtain ⟨_, _, _, h5, h6⟩ := decS_some hB h
  cases p with
  | nil => simp at h6; omega
  | cons x p =>
    unfold unpL
    rw [List.length_cons, unpF_cons, h]; rfl
theorem unpL_no {p : List Int} {m : Nat} (hp : p ≠ []) (h : decS p = none) : unpL m p = .error 3 := by
  cases p with
  | nil => exact absurd rfl hp
  | cons x p =>
    unfold unpL
    rw [List.length_cons, unpF_cons, h]
theorem unpL_pack : ∀ (l : List W) (m : Nat), l.length ≤ m → (∀ x ∈ l, x.ok) → l.all formB = true → (∀ x ∈ l, isB (encL x)) → unpL m (packL l) = .ok l
  | [], _, _, _, _, _ => rfl
  | x :: r, 0, hm, _, _, _ => by simp at hm
  | x :: r, m + 1, hm, hx, hf, hb => by
    simp only [List.all_cons, Bool.and_eq_true] at hf
    have hd := decS_enc x (hx x (by simp)) hf.1 (packL r)
    have hB : isB (encL x ++ packL r) := by
      intro v hv
      rcases List.mem_append.1 hv with h | h
      · exact hb x (by simp) v h
      · exact packL_bd (fun y hy => hb y (by simp [hy])) v h
    show unpL _ (encL x ++ packL r) = _
    rw [unpL_step hB hd, List.drop_left, unpL_pack r m (by simpa using hm) (fun y hy => hx y (by simp [hy])) hf.2 (fun y hy => hb y (by simp [hy]))]
    rfl
theorem unpL_over : ∀ (l : List W) (m : Nat), m < l.length → (∀ x ∈ l, x.ok) → l.all formB = true → (∀ x ∈ l, isB (encL x)) → unpL m (packL l) = .error 2
  | [], _, hm, _, _, _ => by simp at hm
  | x :: r, m, hm, hx, hf, hb => by
    simp only [List.all_cons, Bool.and_eq_true] at hf
    have hd := decS_enc x (hx x (by simp)) hf.1 (packL r)
    have hB : isB (encL x ++ packL r) := by
      intro v hv
      rcases List.mem_append.1 hv with h | h
      · exact hb x (by simp) v h
      · exact packL_bd (fun y hy => hb y (by simp [hy])) v h
    show unpL _ (encL x ++ packL r) = _
    cases m with
    | zero => exact unpL_full hB hd
    | succ m =>
      rw [unpL_step hB hd, List.drop_left, unpL_over r m (by simpa using hm) (fun y hy => hx y (by simp [hy])) hf.2 (fun y hy => hb y (by simp [hy]))]
      rfl
end Go.Proofs.Yteeapfgjjankeaa
