/- Plain: the document's count of circles is the same. -/
import Derived.Test.YtmdmfciicoldoaaMg
namespace Go.Proofs.Ytmdmfciicoldoaa

theorem goodAll_dist (l : List M) (s : Int) : GoodAll l s false ↔ Dist l := by
  constructor
  · intro h
    refine List.pairwise_iff_getElem.2 fun i j hi hj hij => ?_
    simp only [List.getElem_map]
    have hj' : j < l.length := by simpa using hj
    exact (h j hj' hj').2 i hij
  · intro h i hi hil
    refine ⟨by simp, fun k hk e => ?_⟩
    have := dist_idx h (by omega) hil e
    omega
theorem chk_dist {l : List M} {s : Int} : chkL l s false = 0 ↔ Dist l := by
  rw [← goodAll_dist l s]
  unfold chkL
  by_cases h : GoodAll l s false
  · rw [if_pos h]; simp [h]
  · rw [if_neg h]; simp [h]

theorem rInner_ret {f : Int → Option Int} {l : List M} {i : Nat} {x0 : Int} : ∀ (r k : Nat) (a : Int) (least : Bool), 1 ≤ r → r ≤ k → It f r a = some x0 → (∀ q, 1 ≤ q → q < r → It f q a ≠ some x0) →
    (rInner f l i x0 k a least).1 = x0 ∧ ((rInner f l i x0 k a least).2 = true ↔ least = true ∧ ∀ q z, 1 ≤ q → q < r → It f q a = some z → okU l i z l.length = true)
  | 0, _, _, _, h, _, _, _ => by omega
  | r + 1, 0, _, _, _, h, _, _ => by omega
  | r + 1, k + 1, a, least, _, hk, hr, hq => by
    obtain ⟨nx, hnx⟩ := It_before (show It f (1 + r) a = some x0 by rw [Nat.add_comm]; exact hr)
    rw [It_one] at hnx
    rw [It_succ hnx] at hr
    rw [rInner_succ, hnx]
    simp only
    by_cases h1 : r = 0
    · subst h1
      rw [It_zero] at hr; cases hr
      rw [if_pos rfl]
      exact ⟨rfl, ⟨fun h => ⟨h, fun q z hq1 hq2 => by omega⟩, fun h => h.1⟩⟩
    · have hne : nx ≠ x0 := fun e => hq 1 (by omega) (by omega) (by rw [It_one, hnx, e])
      rw [if_neg hne]
      obtain ⟨e1, e2⟩ := rInner_ret (f := f) (l := l) (i := i) r k nx (least && okU l i nx l.length) (by omega) (by omega) hr (fun q h1 h2 h3 => hq (q + 1) (by omega) (by omega) (by rw [It_succ hnx]; exact h3))
      refine ⟨e1, e2.trans ?_⟩
      rw [Bool.and_eq_true]
      constructor
      · rintro ⟨⟨h1, h2⟩, h3⟩
        refine ⟨h1, fun q z hq1 hq2 hz => ?_⟩
        obtain ⟨q', rfl⟩ : ∃ q', q = q' + 1 := ⟨q - 1, by omega⟩
        rw [It_succ hnx] at hz
        by_cases e : q' = 0
        · subst e; rw [It_zero] at hz; cases hz; exact h2
        · exact h3 q' z (by omega) (by omega) hz
      · rintro ⟨h1, h2⟩
        refine ⟨⟨h1, h2 1 nx (by omega) (by omega) (by rw [It_one, hnx])⟩, fun q z hq1 hq2 hz => h2 (q + 1) z (by omega) (by omega) (by rw [It_succ hnx]; exact hz)⟩
theorem rInner_not {f : Int → Option Int} {l : List M} {i : Nat} {x0 : Int} : ∀ (k : Nat) (a : Int) (least : Bool), (a ≠ x0 ∨ 1 ≤ k) → (∀ q, 1 ≤ q → q ≤ k → It f q a ≠ some x0) →
    (rInner f l i x0 k a least).1 ≠ x0 ∨ (rInner f l i x0 k a least).2 = false
  | 0, a, least, h, _ => by
    rcases h with h | h
    · exact .inl h
    · omega
  | k + 1, a, least, _, hq => by
    rw [rInner_succ]
    cases hf : f a with
    | none => exact .inr rfl
    | some nx =>
      have hne : nx ≠ x0 := fun e => hq 1 (by omega) (by omega) (by rw [It_one, hf, e])
      simp only
      rw [if_neg hne]
      exact rInner_not k nx _ (.inl hne) (fun q h1 h2 h3 => hq (q + 1) (by omega) (by omega) (by rw [It_succ hf]; exact h3))

/-- No more pigeons than holes. -/
theorem pigeons : ∀ (n c : Nat) (φ : Nat → Nat), (∀ q, q < c → φ q < n) → (∀ p q, p < c → q < c → φ p = φ q → p = q) → c ≤ n
  | 0, c, φ, h, _ => by
    cases c with
    | zero => omega
    | succ c => have := h 0 (by omega); omega
  | n + 1, c, φ, h, hi => by
    by_cases hex : ∃ q, q < c ∧ φ q = n
    · obtain ⟨q0, hq0, he⟩ := hex
      have := pigeons n (c - 1) (fun q => if q < q0 then φ q else φ (q + 1)) (fun q hq => by
        by_cases h1 : q < q0
        · simp only [if_pos h1]
          have h2 := h q (by omega)
          have h3 : φ q ≠ n := fun e => by have := hi q q0 (by omega) hq0 (by rw [e, he]); omega
          omega
        · simp only [if_neg h1]
          have h2 := h (q + 1) (by omega)
          have h3 : φ (q + 1) ≠ n := fun e => by have := hi (q + 1) q0 (by omega) hq0 (by rw [e, he]); omega
          omega) (fun p q hp hq e => by
        by_cases h1 : p < q0 <;> by_cases h2 : q < q0 <;> simp only [if_pos, if_neg, h1, h2, if_true, if_false] at e
        · exact hi p q (by omega) (by omega) e
        · have := hi p (q + 1) (by omega) (by omega) e; omega
        · have := hi (p + 1) q (by omega) (by omega) e; omega
        · have := hi (p + 1) (q + 1) (by omega) (by omega) e; omega)
      omega
    · have := pigeons n c φ (fun q hq => by
        have h2 := h q hq
        have h3 : φ q ≠ n := fun e => hex ⟨q, hq, e⟩
        omega) hi
      omega

/-- A circle's length: the least number of steps that leads back. -/
theorem period {l : List M} {x : Int} (h : OnC (srcL l) x) : ∃ c, 1 ≤ c ∧ c ≤ l.length ∧ It (srcL l) c x = some x ∧ ∀ q, 1 ≤ q → q < c → It (srcL l) q x ≠ some x := by
  obtain ⟨c, ⟨hc, hx⟩, hmin⟩ := Go.exists_least h
  have hno : ∀ q, 1 ≤ q → q < c → It (srcL l) q x ≠ some x := fun q h1 h2 h3 => by
    have := hmin q ⟨h1, h3⟩; omega
  refine ⟨c, hc, ?_, hx, hno⟩
  have key : ∀ q, ∃ i, q < c → ∃ hi : i < l.length, It (srcL l) q x = some l[i].1 := fun q => by
    by_cases hq : q < c
    · obtain ⟨z, hz⟩ := It_before (show It (srcL l) (q + (c - q)) x = some x by rw [show q + (c - q) = c by omega]; exact hx)
      have ho : OnC (srcL l) z := OnC.step ⟨c, hc, hx⟩ hz
      obtain ⟨y, hy⟩ := ho.some
      obtain ⟨i, hi, e, _⟩ := target_of hy
      exact ⟨i, fun _ => ⟨hi, by rw [hz, e]⟩⟩
    · exact ⟨0, fun h => absurd h hq⟩
  obtain ⟨φ, hφ⟩ := Classical.axiomOfChoice key
  refine pigeons l.length c φ (fun q hq => (hφ q hq).1) (fun p q hp hq e => ?_)
  have aux : ∀ p q, p < q → q < c → φ p = φ q → False := fun p q hpq hq e => by
    obtain ⟨h1, e1⟩ := hφ p (by omega)
    obtain ⟨h2, e2⟩ := hφ q hq
    have e3 : It (srcL l) p x = some l[φ q].1 := by rw [e1]; simp only [e]
    have e4 : It (srcL l) (c - q) l[φ q].1 = some x := It_split e2 (by rw [show q + (c - q) = c by omega]; exact hx)
    exact hno (p + (c - q)) (by omega) (by omega) (It_trans e3 e4)
  rcases Nat.lt_trichotomy p q with h | h | h
  · exact (aux p q h hq e).elim
  · exact h
  · exact (aux q p h hp e.symm).elim

theorem It_mod {f : Int → Option Int} {x : Int} {c : Nat} (h : It f c x = some x) (t : Nat) : It f t x = It f (t % c) x := by
  have h2 := OnC.mul h (t / c)
  have e : t = c * (t / c) + t % c := (Nat.div_add_mod t c).symm
  conv => lhs; rw [e]
  rw [It_add, h2]; rfl

theorem rHit_canon {l : List M} (hD : Dist l) {i : Nat} (hi : i < l.length) : rHit l i = true ↔ canon l i := by
  have hr : rHit l i = ((rInner (srcL l) l i l[i].1 l.length l[i].1 true).2 && ((rInner (srcL l) l i l[i].1 l.length l[i].1 true).1 == l[i].1 && l[i].1 != l[i].2)) := by
    unfold rHit
    rw [List.getElem?_eq_getElem hi]
  rw [hr]
  constructor
  · intro h
    simp only [Bool.and_eq_true, beq_iff_eq, bne_iff_ne] at h
    obtain ⟨h1, h2, h3⟩ := h
    have hex : ∃ q, 1 ≤ q ∧ q ≤ l.length ∧ It (srcL l) q l[i].1 = some l[i].1 := Classical.byContradiction fun hno => by
      rcases rInner_not (f := srcL l) (l := l) (i := i) (x0 := l[i].1) l.length l[i].1 true (.inr (by omega)) (fun q q1 q2 q3 => hno ⟨q, q1, q2, q3⟩) with e | e
      · exact e h2
      · rw [e] at h1; cases h1
    obtain ⟨r, ⟨hr1, hr2, hr3⟩, hmin⟩ := Go.exists_least hex
    have hno : ∀ q, 1 ≤ q → q < r → It (srcL l) q l[i].1 ≠ some l[i].1 := fun q q1 q2 q3 => by
      have := hmin q ⟨q1, by omega, q3⟩; omega
    obtain ⟨_, e2⟩ := rInner_ret (f := srcL l) (l := l) (i := i) (x0 := l[i].1) r l.length l[i].1 true hr1 hr2 hr3 hno
    have hok := (e2.1 h1).2
    refine ⟨hi, ⟨r, hr1, hr3⟩, fun k hk t ht => ?_⟩
    rw [It_mod hr3] at ht
    by_cases e : t % r = 0
    · rw [e, It_zero] at ht
      have := dist_idx hD hi (by omega) (Option.some.inj ht)
      omega
    · have := hok (t % r) _ (by omega) (Nat.mod_lt _ (by omega)) ht
      unfold okU at this
      have := of_decide_eq_true this k (by omega) (by omega)
      rcases this with h | h
      · exact h rfl
      · omega
  · rintro ⟨_, ho, hn⟩
    obtain ⟨c, hc1, hc2, hc3, hc4⟩ := period ho
    obtain ⟨e1, e2⟩ := rInner_ret (f := srcL l) (l := l) (i := i) (x0 := l[i].1) c l.length l[i].1 true hc1 hc2 hc3 hc4
    have hrl : (rInner (srcL l) l i l[i].1 l.length l[i].1 true).2 = true := e2.2 ⟨rfl, fun q z q1 q2 hz => by
      unfold okU
      refine decide_eq_true fun k' hk' _ => ?_
      by_cases h1 : i < k'
      · exact .inr h1
      · refine .inl fun e => ?_
        by_cases h2 : k' = i
        · subst h2
          exact hc4 q q1 q2 (by rw [hz, e])
        · exact hn k' (by omega) q (by rw [hz, e])⟩
    obtain ⟨y, hy⟩ := ho.some
    obtain ⟨hm, hne⟩ := srcL_mem hy
    have heq := dist_mem hD (List.getElem_mem hi) hm rfl
    have hxy : l[i].1 ≠ l[i].2 := by
      rw [heq]
      intro h
      exact hne (by rw [heq]; exact h)
    rw [hrl, e1]
    simp [hxy]

theorem rState_is {l : List M} (hD : Dist l) : ∀ j, j ≤ l.length → rState l j = cnt (canon l) j
  | 0, _ => rfl
  | j + 1, hj => by
    unfold rState cnt
    have h := rHit_canon hD (i := j) (by omega)
    rw [rState_is hD j (by omega)]
    by_cases hc : canon l j
    · rw [if_pos (h.2 hc), if_pos hc]; push_cast; rfl
    · rw [if_neg (fun e => hc (h.1 e)), if_neg hc]; simp

theorem refCircF_is {l : List M} (hD : Dist l) : refCircF l = circN l := by
  unfold refCircF circN
  rw [if_pos (chk_dist.2 hD), rState_is hD _ (Nat.le_refl _)]
theorem refCircF_no {l : List M} (hD : ¬ Dist l) : refCircF l = 0 := if_neg fun h => hD (chk_dist.1 h)
theorem circF_eq {l : List M} (hD : Dist l) : circF l = refCircF l := by rw [circF_is, refCircF_is hD]
end Go.Proofs.Ytmdmfciicoldoaa
