/- Plain: what the program's ordering computes, second part: what is left are circles. -/
import Derived.Test.YtmdmfciicoldoaaMl
namespace Go.Proofs.Ytmdmfciicoldoaa

/-- What is left turns among itself. -/
structure PInv (l : List M) (fr : Int → Option Int) : Prop where
  sub : ∀ x y, fr x = some y → srcL l x = some y
  into : ∀ x y, fr x = some y → fr y ≠ none
  one : ∀ x x' y, fr x = some y → fr x' = some y → x = x'

/-- A map of finitely many to themselves that is one to one misses nobody. -/
theorem hits_all {p : Nat} {φ : Nat → Nat} (h : ∀ q, q < p → φ q < p) (hi : ∀ a b, a < p → b < p → φ a = φ b → a = b) {j : Nat} (hj : j < p) : ∃ q, q < p ∧ φ q = j :=
  Classical.byContradiction fun hno => by
    have hne : ∀ q, q < p → φ q ≠ j := fun q hq e => hno ⟨q, hq, e⟩
    have := pigeons (p - 1) p (fun q => if φ q < j then φ q else φ q - 1) (fun q hq => by
      have h1 := h q hq
      have h2 := hne q hq
      by_cases h3 : φ q < j
      · simp only [if_pos h3]; omega
      · simp only [if_neg h3]; omega) (fun a b ha hb e => by
      have h1 := hne a ha
      have h2 := hne b hb
      apply hi a b ha hb
      by_cases h3 : φ a < j <;> by_cases h4 : φ b < j <;> simp only [h3, h4, if_true, if_false] at e <;> omega)
    omega

theorem drained {l : List M} (hD : Dist l) {fr nd : Int → Option Int} (h : DInv l [] fr nd) : PInv l fr := by
  -- the targets that still get something, as a list
  have hmem : ∀ x, x ∈ ((l.filter fun m => (fr m.1).isSome).map (·.1)) ↔ fr x ≠ none := fun x => by
    rw [List.mem_map]
    constructor
    · rintro ⟨m, hm, rfl⟩
      have := (List.mem_filter.1 hm).2
      intro e; rw [e] at this; cases this
    · intro hx
      cases hf : fr x with
      | none => exact absurd hf hx
      | some y => exact ⟨(x, y), List.mem_filter.2 ⟨(srcL_mem (h.sub x y hf)).1, by simp [hf]⟩, rfl⟩
  have hnod : ((l.filter fun m => (fr m.1).isSome).map (·.1)).Nodup := List.Sublist.nodup (List.Sublist.map _ List.filter_sublist) hD
  generalize ((l.filter fun m => (fr m.1).isSome).map (·.1)) = S at hmem hnod
  have hidx : ∀ a b, (ha : a < S.length) → (hb : b < S.length) → S[a] = S[b] → a = b := fun a b ha hb e => by
    rcases Nat.lt_trichotomy a b with h | h | h
    · exact absurd e ((List.pairwise_iff_getElem.1 hnod) a b ha hb h)
    · exact h
    · exact absurd e.symm ((List.pairwise_iff_getElem.1 hnod) b a hb ha h)
  -- one of those whose source a place is
  have key : ∀ i, ∃ k, i < S.length → ∃ hi : i < S.length, ∃ hk : k < S.length, fr S[k] = some S[i] := fun i => by
    by_cases hi : i < S.length
    · have hx := (hmem S[i]).1 (List.getElem_mem hi)
      have hc : 0 < cntS l fr S[i] := by
        rcases Nat.eq_zero_or_pos (cntS l fr S[i]) with h0 | h0
        · exact absurd (h.all _ hx h0) (by simp)
        · exact h0
      obtain ⟨m, hm, e⟩ := cntS_some hc
      have hmS : m.1 ∈ S := (hmem m.1).2 (by rw [e]; simp)
      obtain ⟨k, hk, ek⟩ := List.getElem_of_mem hmS
      exact ⟨k, fun _ => ⟨hi, hk, by rw [ek]; exact e⟩⟩
    · exact ⟨0, fun h => absurd h hi⟩
  obtain ⟨φ, hφ⟩ := Classical.axiomOfChoice key
  have hlt : ∀ q, q < S.length → φ q < S.length := fun q hq => (hφ q hq).2.1
  have hinj : ∀ a b, a < S.length → b < S.length → φ a = φ b → a = b := fun a b ha hb e => by
    obtain ⟨_, h1, e1⟩ := hφ a ha
    obtain ⟨_, h2, e2⟩ := hφ b hb
    simp only [e] at e1
    rw [e1] at e2
    exact hidx a b ha hb (Option.some.inj e2)
  have hit : ∀ x y, fr x = some y → ∃ q, ∃ hq : q < S.length, S[q] = y ∧ ∃ h2 : φ q < S.length, S[φ q] = x := fun x y hx => by
    have hxS := (hmem x).2 (by rw [hx]; simp)
    obtain ⟨j, hj, ej⟩ := List.getElem_of_mem hxS
    obtain ⟨q, hq, eq⟩ := hits_all hlt hinj hj
    obtain ⟨_, h2, e2⟩ := hφ q hq
    refine ⟨q, hq, ?_, h2, by simp only [eq]; exact ej⟩
    simp only [eq, ej] at e2
    rw [hx] at e2
    exact (Option.some.inj e2).symm
  refine ⟨h.sub, fun x y hx => ?_, fun x x' y hx hx' => ?_⟩
  · obtain ⟨q, hq, e, _⟩ := hit x y hx
    exact (hmem y).1 (by rw [← e]; exact List.getElem_mem hq)
  · obtain ⟨q, hq, e, h2, e2⟩ := hit x y hx
    obtain ⟨q', hq', e', h2', e2'⟩ := hit x' y hx'
    have : q = q' := hidx q q' hq hq' (by rw [e, e'])
    subst this
    rw [← e2, ← e2']

def cycF (spare m1 : Int) : Nat → Int → Int → (Int → Option Int) → List M → (Int → Option Int) × List M
  | 0, _, _, fr, out => (fr, out)
  | k + 1, a, src, fr, out => if src = m1 then (upd fr a none, out ++ [(a, spare)]) else cycF spare m1 k src (((upd fr a none) src).getD 0) (upd fr a none) (out ++ [(a, src)])
theorem cyc_end {spare m1 : Int} {k : Nat} {a src : Int} {fr : Int → Option Int} {out : List M} (h : src = m1) : cycF spare m1 (k + 1) a src fr out = (upd fr a none, out ++ [(a, spare)]) := if_pos h
theorem cyc_go {spare m1 : Int} {k : Nat} {a src : Int} {fr : Int → Option Int} {out : List M} (h : src ≠ m1) : cycF spare m1 (k + 1) a src fr out = cycF spare m1 k src (((upd fr a none) src).getD 0) (upd fr a none) (out ++ [(a, src)]) := if_neg h

/-- Somewhere on a circle, s steps behind its head. -/
structure CI (f0 : Int → Option Int) (m1 : Int) (s : Nat) (a src : Int) (fr : Int → Option Int) : Prop where
  way : It f0 s m1 = some a
  next : f0 a = some src
  cut : ∀ x, fr x = none ↔ f0 x = none ∨ ∃ q, q < s ∧ It f0 q m1 = some x
  same : ∀ x, fr x ≠ none → fr x = f0 x
  no : ∀ q, 1 ≤ q → q ≤ s → It f0 q m1 ≠ some m1

theorem way_one {l : List M} {f0 : Int → Option Int} (hp : PInv l f0) {m1 : Int} {s : Nat} (hno : ∀ q, 1 ≤ q → q ≤ s → It f0 q m1 ≠ some m1) :
    ∀ p q z, p < q → q ≤ s → It f0 p m1 = some z → It f0 q m1 ≠ some z
  | 0, q, z, hpq, hq, h1, h2 => by
    rw [It_zero] at h1; cases h1
    exact hno q (by omega) hq h2
  | p + 1, q, z, hpq, hq, h1, h2 => by
    obtain ⟨q', rfl⟩ : ∃ q', q = q' + 1 := ⟨q - 1, by omega⟩
    obtain ⟨u, hu⟩ := It_before (show It f0 (p + 1) m1 = some z from h1)
    obtain ⟨v, hv⟩ := It_before (show It f0 (q' + 1) m1 = some z from h2)
    have e1 := It_split hu h1
    have e2 := It_split hv h2
    rw [It_one] at e1 e2
    have := hp.one u v z e1 e2
    subst this
    exact way_one hp hno p q' u (by omega) (by omega) hu hv

theorem CI.live {l : List M} {f0 fr : Int → Option Int} (hp : PInv l f0) {m1 a src : Int} {s : Nat} (h : CI f0 m1 s a src fr) : fr a = some src := by
  have hne : fr a ≠ none := fun e => by
    rcases (h.cut a).1 e with h1 | ⟨q, hq, h1⟩
    · rw [h.next] at h1; cases h1
    · exact way_one hp h.no q s a hq (Nat.le_refl _) h1 h.way
  rw [h.same a hne, h.next]
theorem CI.step {l : List M} {f0 fr : Int → Option Int} (hp : PInv l f0) {m1 a src : Int} {s : Nat} (h : CI f0 m1 s a src fr) (hs : src ≠ m1) : ∃ src', (upd fr a none) src = some src' ∧ CI f0 m1 (s + 1) src src' (upd fr a none) := by
  have hway := It_next h.way h.next
  have hno : ∀ q, 1 ≤ q → q ≤ s + 1 → It f0 q m1 ≠ some m1 := fun q h1 h2 h3 => by
    by_cases e : q = s + 1
    · subst e; rw [hway] at h3; cases h3; exact hs rfl
    · exact h.no q h1 (by omega) h3
  obtain ⟨src', hsrc'⟩ : ∃ y, f0 src = some y := by
    cases e : f0 src with
    | none => exact absurd e (hp.into a src h.next)
    | some y => exact ⟨y, rfl⟩
  have hcut : ∀ x, (upd fr a none) x = none ↔ f0 x = none ∨ ∃ q, q < s + 1 ∧ It f0 q m1 = some x := fun x => by
    by_cases e : x = a
    · subst e
      rw [upd_same]
      simp only [true_iff]
      exact .inr ⟨s, by omega, h.way⟩
    · rw [upd_other _ _ e, h.cut x]
      constructor
      · rintro (h1 | ⟨q, hq, h1⟩)
        · exact .inl h1
        · exact .inr ⟨q, by omega, h1⟩
      · rintro (h1 | ⟨q, hq, h1⟩)
        · exact .inl h1
        · by_cases e2 : q = s
          · subst e2; rw [h.way] at h1; cases h1; exact absurd rfl e
          · exact .inr ⟨q, by omega, h1⟩
  have hsame : ∀ x, (upd fr a none) x ≠ none → (upd fr a none) x = f0 x := fun x hx => by
    by_cases e : x = a
    · subst e; rw [upd_same] at hx; exact absurd rfl hx
    · rw [upd_other _ _ e] at hx ⊢; exact h.same x hx
  have hci : CI f0 m1 (s + 1) src src' (upd fr a none) := ⟨hway, hsrc', hcut, hsame, hno⟩
  exact ⟨src', hci.live hp, hci⟩
/-- The circle is closed: what is left turns among itself again. -/
theorem CI.done {l : List M} {f0 fr : Int → Option Int} (hp : PInv l f0) {m1 a : Int} {s : Nat} (h : CI f0 m1 s a m1 fr) : PInv l (upd fr a none) ∧ (∀ x, (upd fr a none) x = none ↔ f0 x = none ∨ ∃ t, It f0 t m1 = some x) ∧ (∀ x, (upd fr a none) x ≠ none → (upd fr a none) x = f0 x) := by
  have hcyc : It f0 (s + 1) m1 = some m1 := It_next h.way h.next
  have hcut : ∀ x, (upd fr a none) x = none ↔ f0 x = none ∨ ∃ t, It f0 t m1 = some x := fun x => by
    by_cases e : x = a
    · subst e
      rw [upd_same]
      simp only [true_iff]
      exact .inr ⟨s, h.way⟩
    · rw [upd_other _ _ e, h.cut x]
      constructor
      · rintro (h1 | ⟨q, hq, h1⟩)
        · exact .inl h1
        · exact .inr ⟨q, h1⟩
      · rintro (h1 | ⟨q, h1⟩)
        · exact .inl h1
        · rw [It_mod hcyc] at h1
          have hlt := Nat.mod_lt q (show 0 < s + 1 by omega)
          refine .inr ⟨q % (s + 1), ?_, h1⟩
          by_cases e2 : q % (s + 1) = s
          · rw [e2, h.way] at h1; cases h1; exact absurd rfl e
          · omega
  have hsame : ∀ x, (upd fr a none) x ≠ none → (upd fr a none) x = f0 x := fun x hx => by
    by_cases e : x = a
    · subst e; rw [upd_same] at hx; exact absurd rfl hx
    · rw [upd_other _ _ e] at hx ⊢; exact h.same x hx
  refine ⟨⟨fun x y hx => ?_, fun x y hx hy => ?_, fun x x' y hx hx' => ?_⟩, hcut, hsame⟩
  · rw [hsame x (by rw [hx]; simp)] at hx
    exact hp.sub x y hx
  · have hx0 := hx
    rw [hsame x (by rw [hx]; simp)] at hx
    rcases (hcut y).1 hy with h1 | ⟨t, h1⟩
    · exact hp.into x y hx h1
    · -- y stands on the circle: so does x
      have : ∃ t', It f0 t' m1 = some x := by
        have h2 : It f0 ((s + 1) * 1 + t) m1 = some y := It_trans (OnC.mul hcyc 1) h1
        obtain ⟨u, hu⟩ := It_before (show It f0 (s + t + 1) m1 = some y by rw [show s + t + 1 = (s + 1) * 1 + t by omega]; exact h2)
        have h3 := It_split hu (show It f0 (s + t + 1) m1 = some y by rw [show s + t + 1 = (s + 1) * 1 + t by omega]; exact h2)
        rw [It_one] at h3
        have := hp.one u x y h3 hx
        subst this
        exact ⟨_, hu⟩
      have := (hcut x).2 (.inr this)
      rw [this] at hx0; cases hx0
  · rw [hsame x (by rw [hx]; simp)] at hx
    rw [hsame x' (by rw [hx']; simp)] at hx'
    exact hp.one x x' y hx hx'
theorem CI.start {f0 : Int → Option Int} {m1 src : Int} (h : f0 m1 = some src) : CI f0 m1 0 m1 src f0 :=
  ⟨rfl, h, fun x => by simp, fun x _ => rfl, fun q h1 h2 => by omega⟩

def finS (l : List M) (spare : Int) (fr0 : Int → Option Int) (out0 : List M) : Nat → (Int → Option Int) × List M
  | 0 => (fr0, out0)
  | j + 1 => match l[j]? with
    | none => finS l spare fr0 out0 j
    | some m => match (finS l spare fr0 out0 j).1 m.1 with
      | none => finS l spare fr0 out0 j
      | some src => cycF spare m.1 (l.length + 1) m.1 src (finS l spare fr0 out0 j).1 ((finS l spare fr0 out0 j).2 ++ [(spare, m.1)])
theorem finS_none {l : List M} {spare : Int} {fr0 : Int → Option Int} {out0 : List M} {j : Nat} (hj : j < l.length) (h : (finS l spare fr0 out0 j).1 l[j].1 = none) : finS l spare fr0 out0 (j + 1) = finS l spare fr0 out0 j := by
  show (match l[j]? with | none => _ | some m => _) = _
  rw [List.getElem?_eq_getElem hj]
  simp only [h]
theorem finS_some {l : List M} {spare : Int} {fr0 : Int → Option Int} {out0 : List M} {j : Nat} {src : Int} (hj : j < l.length) (h : (finS l spare fr0 out0 j).1 l[j].1 = some src) :
    finS l spare fr0 out0 (j + 1) = cycF spare l[j].1 (l.length + 1) l[j].1 src (finS l spare fr0 out0 j).1 ((finS l spare fr0 out0 j).2 ++ [(spare, l[j].1)]) := by
  show (match l[j]? with | none => _ | some m => _) = _
  rw [List.getElem?_eq_getElem hj]
  simp only [h]
/-- The program's moves, one by one. -/
def orderF (l : List M) (spare : Int) : List M :=
  (finS l spare (drainF (l.length + 1) (freeS l l.length) (srcL l) [] (needS l l.length)).1 (drainF (l.length + 1) (freeS l l.length) (srcL l) [] (needS l l.length)).2 l.length).2
end Go.Proofs.Ytmdmfciicoldoaa
