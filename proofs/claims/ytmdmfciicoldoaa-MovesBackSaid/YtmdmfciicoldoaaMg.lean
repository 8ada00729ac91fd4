/- Plain: ways and circles of a list of moves; the two counts are one. -/
import Derived.Test.YtmdmfciicoldoaaMe
import Derived.Test.YtmdmfciicoldoaaMf
namespace Go.Proofs.Ytmdmfciicoldoaa

/-- So many steps. -/
def It (f : Int → Option Int) : Nat → Int → Option Int
  | 0, x => some x
  | k + 1, x => (f x).bind (It f k)
section
variable {f : Int → Option Int}
theorem It_zero (x : Int) : It f 0 x = some x := rfl
theorem It_succ {x y : Int} (h : f x = some y) (k : Nat) : It f (k + 1) x = It f k y := by
  show (f x).bind _ = _
  rw [h]; rfl
theorem It_add : ∀ (a b : Nat) (x : Int), It f (a + b) x = (It f a x).bind (It f b)
  | 0, b, x => by rw [Nat.zero_add]; rfl
  | a + 1, b, x => by
    rw [show a + 1 + b = (a + b) + 1 by omega]
    show (f x).bind _ = ((f x).bind _).bind _
    cases f x with
    | none => rfl
    | some y => exact It_add a b y
theorem It_one (x : Int) : It f 1 x = f x := by
  show (f x).bind _ = _
  cases f x <;> rfl
theorem It_trans {a b : Nat} {x y z : Int} (h1 : It f a x = some y) (h2 : It f b y = some z) : It f (a + b) x = some z := by
  rw [It_add, h1]; exact h2
theorem It_next {s : Nat} {x a y : Int} (h : It f s x = some a) (hf : f a = some y) : It f (s + 1) x = some y := It_trans h (by rw [It_one]; exact hf)
theorem It_split {a b : Nat} {x y z : Int} (h1 : It f a x = some y) (h2 : It f (a + b) x = some z) : It f b y = some z := by
  rw [It_add, h1] at h2; exact h2
theorem It_before {a b : Nat} {x z : Int} (h : It f (a + b) x = some z) : ∃ y, It f a x = some y := by
  rw [It_add] at h
  cases h1 : It f a x with
  | none => rw [h1] at h; cases h
  | some y => exact ⟨y, rfl⟩

/-- On a circle. -/
def OnC (f : Int → Option Int) (x : Int) : Prop := ∃ k, 1 ≤ k ∧ It f k x = some x

theorem OnC.mul {x : Int} {k : Nat} (h : It f k x = some x) : ∀ m, It f (k * m) x = some x
  | 0 => rfl
  | m + 1 => by rw [Nat.mul_succ]; exact It_trans (OnC.mul h m) h
/-- From wherever a circle's way leads, it leads back. -/
theorem OnC.back {x y : Int} {q : Nat} (h : OnC f x) (hq : It f q x = some y) : ∃ t, 1 ≤ t ∧ It f t y = some x := by
  obtain ⟨k, hk, h⟩ := h
  have hm := OnC.mul h (q + 1)
  have hle : q + 1 ≤ k * (q + 1) := Nat.le_mul_of_pos_left _ (by omega)
  refine ⟨k * (q + 1) - q, by omega, ?_⟩
  refine It_split hq ?_
  rw [show q + (k * (q + 1) - q) = k * (q + 1) by omega]
  exact hm
theorem OnC.step {x y : Int} {q : Nat} (h : OnC f x) (hq : It f q x = some y) : OnC f y := by
  obtain ⟨t, ht, hb⟩ := h.back hq
  exact ⟨t + q, by omega, It_trans hb hq⟩
theorem OnC.some {x : Int} (h : OnC f x) : ∃ y, f x = some y := by
  obtain ⟨k, hk, h⟩ := h
  obtain ⟨m, rfl⟩ : ∃ m, k = 1 + m := ⟨k - 1, by omega⟩
  obtain ⟨y, hy⟩ := It_before h
  rw [It_one] at hy
  exact ⟨y, hy⟩
end

theorem dist_mem {l : List M} (hD : Dist l) {m m' : M} (h1 : m ∈ l) (h2 : m' ∈ l) (e : m.1 = m'.1) : m = m' := by
  obtain ⟨i, hi, rfl⟩ := List.getElem_of_mem h1
  obtain ⟨j, hj, rfl⟩ := List.getElem_of_mem h2
  have hij : i = j := by
    rcases Nat.lt_trichotomy i j with h | h | h
    · have := (List.pairwise_iff_getElem.1 hD) i j (by simpa using hi) (by simpa using hj) h
      simp at this; exact absurd e this
    · exact h
    · have := (List.pairwise_iff_getElem.1 hD) j i (by simpa using hj) (by simpa using hi) h
      simp at this; exact absurd e.symm this
  subst hij; rfl
theorem dist_idx {l : List M} (hD : Dist l) {i j : Nat} (hi : i < l.length) (hj : j < l.length) (e : l[i].1 = l[j].1) : i = j := by
  rcases Nat.lt_trichotomy i j with h | h | h
  · have := (List.pairwise_iff_getElem.1 hD) i j (by simpa using hi) (by simpa using hj) h
    simp at this; exact absurd e this
  · exact h
  · have := (List.pairwise_iff_getElem.1 hD) j i (by simpa using hj) (by simpa using hi) h
    simp at this; exact absurd e.symm this
theorem srcL_of_mem {l : List M} (hD : Dist l) {m : M} (h : m ∈ l) (hne : m.1 ≠ m.2) : srcL l m.1 = some m.2 := by
  cases hs : srcL l m.1 with
  | none =>
    unfold srcL at hs
    rw [Option.map_eq_none_iff, List.find?_eq_none] at hs
    have := hs m h
    simp at this
    exact absurd this.symm hne
  | some b =>
    obtain ⟨h2, _⟩ := srcL_mem hs
    have := dist_mem hD h h2 rfl
    rw [this]
theorem target_of {l : List M} {x y : Int} (h : srcL l x = some y) : ∃ i, ∃ hi : i < l.length, l[i].1 = x ∧ l[i].2 = y := by
  obtain ⟨h2, _⟩ := srcL_mem h
  obtain ⟨i, hi, e⟩ := List.getElem_of_mem h2
  exact ⟨i, hi, by rw [e], by rw [e]⟩

/-- The index at which a circle is told: the least one. -/
def canon (l : List M) (i : Nat) : Prop := ∃ h : i < l.length, OnC (srcL l) l[i].1 ∧ ∀ k, (hk : k < i) → ∀ t, It (srcL l) t l[i].1 ≠ some (l[k]'(by omega)).1

theorem canon_exists {l : List M} {x : Int} (h : OnC (srcL l) x) : ∃ i, canon l i ∧ ∃ h : i < l.length, ∃ t, It (srcL l) t x = some l[i].1 := by
  obtain ⟨y, hy⟩ := h.some
  obtain ⟨i0, hi0, e0, _⟩ := target_of hy
  have hex : ∃ i, ∃ h : i < l.length, ∃ t, It (srcL l) t x = some l[i].1 := ⟨i0, hi0, 0, by rw [e0]; rfl⟩
  obtain ⟨i, ⟨hi, t, ht⟩, hmin⟩ := Go.exists_least hex
  refine ⟨i, ⟨hi, h.step ht, fun k hk s hs => ?_⟩, hi, t, ht⟩
  have := hmin k ⟨by omega, t + s, It_trans ht hs⟩
  omega
theorem canon_one {l : List M} {i j : Nat} (hi : canon l i) (hj : canon l j) {t : Nat} (h : ∃ hj' : j < l.length, ∃ hi' : i < l.length, It (srcL l) t l[i].1 = some l[j].1) : i = j := by
  obtain ⟨hjl, hil, ht⟩ := h
  obtain ⟨h1, ho, hn⟩ := hi
  obtain ⟨h2, ho2, hn2⟩ := hj
  rcases Nat.lt_trichotomy i j with h | h | h
  · obtain ⟨s, _, hs⟩ := ho.back ht
    exact absurd hs (hn2 i h s)
  · exact h
  · exact absurd ht (hn j h t)

open Classical in
/-- How many below n. -/
noncomputable def cnt (p : Nat → Prop) : Nat → Nat
  | 0 => 0
  | n + 1 => cnt p n + if p n then 1 else 0
theorem cnt_congr {p q : Nat → Prop} : ∀ n, (∀ i, i < n → (p i ↔ q i)) → cnt p n = cnt q n
  | 0, _ => rfl
  | n + 1, h => by
    unfold cnt
    rw [cnt_congr n (fun i hi => h i (by omega))]
    have := h n (by omega)
    by_cases hp : p n
    · rw [if_pos hp, if_pos (this.1 hp)]
    · rw [if_neg hp, if_neg (fun hq => hp (this.2 hq))]
theorem cnt_add {p q : Nat → Prop} {j : Nat} : ∀ n, j < n → (∀ i, i < n → (q i ↔ p i ∨ i = j)) → ¬ p j → cnt q n = cnt p n + 1
  | 0, h, _, _ => by omega
  | n + 1, hj, h, hn => by
    unfold cnt
    by_cases e : j = n
    · subst e
      rw [cnt_congr (p := q) (q := p) j (fun i hi => by
        rw [h i (by omega)]
        constructor
        · rintro (h | h)
          · exact h
          · omega
        · exact .inl), if_pos ((h j (by omega)).2 (.inr rfl)), if_neg hn]
    · rw [cnt_add n (by omega) (fun i hi => h i (by omega)) hn]
      have := h n (by omega)
      by_cases hp : p n
      · rw [if_pos hp, if_pos (this.2 (.inl hp))]
      · rw [if_neg hp, if_neg (fun hq => by rcases this.1 hq with h | h; exact hp h; exact e h.symm)]
theorem cnt_none {p : Nat → Prop} : ∀ n, (∀ i, i < n → ¬ p i) → cnt p n = 0
  | 0, _ => rfl
  | n + 1, h => by unfold cnt; rw [cnt_none n (fun i hi => h i (by omega)), if_neg (h n (by omega))]

noncomputable def circN (l : List M) : Nat := cnt (canon l) l.length

/-! ### the program's count -/
/-- How many circles have been met. -/
noncomputable def gcnt (l : List M) (g : Int → Option Int) : Nat := cnt (fun i => canon l i ∧ ∃ h : i < l.length, g l[i].1 ≠ none) l.length
theorem gcnt_same {l : List M} {g g' : Int → Option Int} (h : ∀ i, (h : i < l.length) → canon l i → (g l[i].1 ≠ none ↔ g' l[i].1 ≠ none)) : gcnt l g = gcnt l g' :=
  cnt_congr _ fun i hi => ⟨fun ⟨hc, hil, hg⟩ => ⟨hc, hil, (h i hil hc).1 hg⟩, fun ⟨hc, hil, hg⟩ => ⟨hc, hil, (h i hil hc).2 hg⟩⟩
theorem gcnt_more {l : List M} {g g' : Int → Option Int} {j : Nat} (hj : j < l.length) (hc : canon l j) (h0 : g l[j].1 = none) (h1 : g' l[j].1 ≠ none)
    (h : ∀ i, (h : i < l.length) → canon l i → i ≠ j → (g l[i].1 ≠ none ↔ g' l[i].1 ≠ none)) : gcnt l g' = gcnt l g + 1 := by
  unfold gcnt
  refine cnt_add (j := j) l.length hj (fun i hi => ⟨fun ⟨hci, hil, hg⟩ => ?_, ?_⟩) (fun ⟨_, _, hn⟩ => hn h0)
  · by_cases e : i = j
    · exact .inr e
    · exact .inl ⟨hci, hil, (h i hil hci e).2 hg⟩
  · rintro (⟨hci, hil, hg⟩ | e)
    · by_cases e : i = j
      · subst e; exact absurd h0 hg
      · exact ⟨hci, hil, (h i hil hci e).1 hg⟩
    · subst e; exact ⟨hc, hj, h1⟩

structure CInv (l : List M) (j : Nat) (g : Int → Option Int) (n : Int) : Prop where
  shut : ∀ x y, g x ≠ none → srcL l x = some y → srcL l y ≠ none → g y ≠ none
  seen : ∀ k, (hk : k < l.length) → k < j → srcL l l[k].1 ≠ none → g l[k].1 ≠ none
  val : ∀ x r, g x = some r → r < (j : Int)
  num : n = gcnt l g

theorem shut_way {l : List M} {g : Int → Option Int} (hs : ∀ x y, g x ≠ none → srcL l x = some y → srcL l y ≠ none → g y ≠ none) :
    ∀ (t : Nat) (x z : Int), g x ≠ none → It (srcL l) t x = some z → srcL l z ≠ none → g z ≠ none
  | 0, x, z, hx, h, _ => by simp [It] at h; subst h; exact hx
  | t + 1, x, z, hx, h, hz => by
    cases hf : srcL l x with
    | none => simp [It, hf] at h
    | some y =>
      rw [It_succ hf] at h
      have hy : srcL l y ≠ none := by
        cases t with
        | zero => simp [It] at h; subst h; exact hz
        | succ t =>
          intro e
          simp [It, e] at h
      exact shut_way hs t y z (hs x y hx hf hy) h hz

structure CIn (l : List M) (j : Nat) (x0 : Int) (g0 g : Int → Option Int) (s : Nat) (a : Int) : Prop where
  way : It (srcL l) s x0 = some a
  seen : ∀ x, g x ≠ none ↔ g0 x ≠ none ∨ ∃ s', s' < s ∧ It (srcL l) s' x0 = some x
  new : ∀ s' x, s' < s → It (srcL l) s' x0 = some x → g x = some (j : Int) ∧ g0 x = none ∧ srcL l x ≠ none
  old : ∀ x, g0 x ≠ none → g x = g0 x

theorem cInner_inv {l : List M} {j : Nat} (hj : j < l.length) {g0 : Int → Option Int} {n0 : Int} (h0 : CInv l j g0 n0) :
    ∀ (k : Nat) (g : Int → Option Int) (s : Nat) (a : Int), CIn l j l[j].1 g0 g s a → unseen l g < k →
      CInv l (j + 1) (cInner (srcL l) j k g n0 a).1 (cInner (srcL l) j k g n0 a).2
  | 0, _, _, _, _, hu => by omega
  | k + 1, g, s, a, h, hu => by
    have hval : ∀ x r, g x = some r → r < ((j + 1 : Nat) : Int) := fun x r hx => by
      rcases (h.seen x).1 (by rw [hx]; simp) with h1 | ⟨s', hs', h1⟩
      · rw [h.old x h1] at hx
        have := h0.val x r hx; omega
      · have := (h.new s' x hs' h1).1
        rw [hx] at this; cases this; omega
    cases hf : srcL l a with
    | none =>
      rw [cInner_end hf]
      have hno : ∀ s' x, s' < s → It (srcL l) s' l[j].1 = some x → ¬ OnC (srcL l) x := fun s' x hs' hx hc => by
        have hxa : It (srcL l) (s - s') x = some a := It_split hx (by rw [show s' + (s - s') = s by omega]; exact h.way)
        obtain ⟨y, hy⟩ := (hc.step hxa).some
        rw [hf] at hy; cases hy
      refine ⟨fun x y hx hxy hy => ?_, fun i hi hij hne => ?_, hval, ?_⟩
      · rcases (h.seen x).1 hx with h1 | ⟨s', hs', h1⟩
        · exact (h.seen y).2 (.inl (h0.shut x y h1 hxy hy))
        · have h2 := It_next h1 hxy
          by_cases e : s' + 1 = s
          · rw [e, h.way] at h2; cases h2; exact absurd hf hy
          · exact (h.seen y).2 (.inr ⟨s' + 1, by omega, h2⟩)
      · by_cases e : i = j
        · subst e
          by_cases hs : s = 0
          · subst hs
            have := h.way
            rw [It_zero] at this; cases this
            exact absurd hf hne
          · exact (h.seen _).2 (.inr ⟨0, by omega, rfl⟩)
        · exact (h.seen _).2 (.inl (h0.seen i hi (by omega) hne))
      · show n0 = (gcnt l g : Int)
        rw [h0.num]
        congr 1
        refine gcnt_same fun i hil hc => ⟨fun hg => (h.seen _).2 (.inl hg), fun hg => ?_⟩
        rcases (h.seen _).1 hg with h1 | ⟨s', hs', h1⟩
        · exact h1
        · obtain ⟨_, ho, _⟩ := hc
          exact absurd ho (hno s' _ hs' h1)
    | some nx =>
      cases hg : g a with
      | none =>
        rw [cInner_go hf hg]
        have hg0a : g0 a = none := by
          cases e : g0 a with
          | none => rfl
          | some r => have := h.old a (by rw [e]; simp); rw [hg, e] at this; cases this
        refine cInner_inv hj h0 k _ (s + 1) nx ⟨It_next h.way hf, fun x => ?_, fun s' x hs' hx => ?_, fun x hx => ?_⟩ ?_
        · by_cases e : x = a
          · subst e
            rw [upd_same]
            simp only [ne_eq, reduceCtorEq, not_false_eq_true, true_iff]
            exact .inr ⟨s, by omega, h.way⟩
          · rw [upd_other _ _ e, h.seen x]
            constructor
            · rintro (h1 | ⟨s', hs', h1⟩)
              · exact .inl h1
              · exact .inr ⟨s', by omega, h1⟩
            · rintro (h1 | ⟨s', hs', h1⟩)
              · exact .inl h1
              · by_cases e2 : s' = s
                · subst e2
                  rw [h.way] at h1; cases h1; exact absurd rfl e
                · exact .inr ⟨s', by omega, h1⟩
        · by_cases e : x = a
          · subst e
            exact ⟨upd_same _ _ _, hg0a, by rw [hf]; simp⟩
          · rw [upd_other _ _ e]
            have : s' ≠ s := fun e2 => by subst e2; rw [h.way] at hx; cases hx; exact e rfl
            exact h.new s' x (by omega) hx
        · have e : x ≠ a := fun e => by subst e; exact hx hg0a
          rw [upd_other _ _ e]; exact h.old x hx
        · have hup : unseen l (upd g a (some (j : Int))) + 1 ≤ unseen l g := unseen_upd ⟨(a, nx), (srcL_mem hf).1, rfl⟩ hg (j : Int)
          omega
      | some r =>
        rw [cInner_met hf hg]
        have hshut : ∀ x y, g x ≠ none → srcL l x = some y → srcL l y ≠ none → g y ≠ none := fun x y hx hxy hy => by
          rcases (h.seen x).1 hx with h1 | ⟨s', hs', h1⟩
          · exact (h.seen y).2 (.inl (h0.shut x y h1 hxy hy))
          · have h2 := It_next h1 hxy
            by_cases e : s' + 1 = s
            · rw [e, h.way] at h2; cases h2; rw [hg]; simp
            · exact (h.seen y).2 (.inr ⟨s' + 1, by omega, h2⟩)
        have hseen : ∀ k, (hk : k < l.length) → k < j + 1 → srcL l l[k].1 ≠ none → g l[k].1 ≠ none := fun i hi hij hne => by
          by_cases e : i = j
          · subst e
            by_cases hs : s = 0
            · subst hs
              have := h.way
              rw [It_zero] at this; cases this
              rw [hg]; simp
            · exact (h.seen _).2 (.inr ⟨0, by omega, rfl⟩)
          · exact (h.seen _).2 (.inl (h0.seen i hi (by omega) hne))
        by_cases hr : r = (j : Int)
        · rw [if_pos hr]
          have hg0a : g0 a = none := by
            cases e : g0 a with
            | none => rfl
            | some q =>
              have h1 := h.old a (by rw [e]; simp)
              rw [hg, e] at h1; cases h1
              have := h0.val a r e; omega
          obtain ⟨s', hs', hsa⟩ : ∃ s', s' < s ∧ It (srcL l) s' l[j].1 = some a := by
            rcases (h.seen a).1 (by rw [hg]; simp) with h1 | h1
            · exact absurd hg0a h1
            · exact h1
          have hoc : OnC (srcL l) a := ⟨s - s', by omega, It_split hsa (by rw [show s' + (s - s') = s by omega]; exact h.way)⟩
          obtain ⟨i1, hc1, hil1, t1, ht1⟩ := canon_exists hoc
          obtain ⟨t2, _, ht2⟩ := hoc.back ht1
          have hg0c : g0 l[i1].1 = none := by
            cases e : g0 l[i1].1 with
            | none => rfl
            | some q => exact absurd hg0a (shut_way h0.shut t2 _ a (by rw [e]; simp) ht2 (by rw [hf]; simp))
          have hgc : g l[i1].1 ≠ none := by
            obtain ⟨_, ho, _⟩ := hc1
            obtain ⟨y, hy⟩ := ho.some
            exact shut_way hshut t1 a _ (by rw [hg]; simp) ht1 (by rw [hy]; simp)
          have hmore := gcnt_more (g := g0) (g' := g) hil1 hc1 hg0c hgc (fun i hil hc hne => ⟨fun hgi => (h.seen _).2 (.inl hgi), fun hgi => by
            rcases (h.seen _).1 hgi with h1 | ⟨q, hq, h1⟩
            · exact h1
            · have hia : It (srcL l) (s - q) l[i].1 = some a := It_split h1 (by rw [show q + (s - q) = s by omega]; exact h.way)
              exact absurd (canon_one hc hc1 ⟨hil1, hil, It_trans hia ht1⟩) hne⟩)
          refine ⟨hshut, hseen, hval, ?_⟩
          show n0 + 1 = (gcnt l g : Int)
          rw [h0.num, hmore]; push_cast; rfl
        · rw [if_neg hr]
          have hg0a : g0 a ≠ none := by
            rcases (h.seen a).1 (by rw [hg]; simp) with h1 | ⟨s', hs', h1⟩
            · exact h1
            · have := (h.new s' a hs' h1).1
              rw [hg] at this; cases this; exact absurd rfl hr
          refine ⟨hshut, hseen, hval, ?_⟩
          show n0 = (gcnt l g : Int)
          rw [h0.num]
          congr 1
          refine gcnt_same fun i hil hc => ⟨fun hgi => (h.seen _).2 (.inl hgi), fun hgi => ?_⟩
          rcases (h.seen _).1 hgi with h1 | ⟨q, hq, h1⟩
          · exact h1
          · obtain ⟨_, ho, _⟩ := hc
            have hia : It (srcL l) (s - q) l[i].1 = some a := It_split h1 (by rw [show q + (s - q) = s by omega]; exact h.way)
            obtain ⟨t, _, ht⟩ := ho.back hia
            obtain ⟨y, hy⟩ := ho.some
            exact shut_way h0.shut t a _ hg0a ht (by rw [hy]; simp)

theorem cState_inv (l : List M) : ∀ j, j ≤ l.length → CInv l j (cState l j).1 (cState l j).2
  | 0, _ => ⟨fun x y hx => absurd rfl hx, fun k _ h => by omega, fun x r h => by simp [cState] at h, by
      show (0 : Int) = (gcnt l _ : Int)
      unfold gcnt
      rw [cnt_none _ (fun i _ ⟨_, _, h⟩ => h rfl)]; rfl⟩
  | j + 1, hj => by
    have h0 := cState_inv l j (by omega)
    have hst : cState l (j + 1) = cInner (srcL l) j (l.length + 1) (cState l j).1 (cState l j).2 l[j].1 := by
      show (match l[j]? with | none => _ | some m => _) = _
      rw [List.getElem?_eq_getElem (by omega)]
    rw [hst]
    exact cInner_inv (by omega) h0 _ _ 0 _ ⟨rfl, fun x => by simp, fun s' x h => by omega, fun x _ => rfl⟩ (Nat.lt_succ_of_le (unseen_le _ _))

theorem circF_is (l : List M) : circF l = circN l := by
  have h := cState_inv l l.length (Nat.le_refl _)
  unfold circF circN
  rw [h.num]
  unfold gcnt
  congr 1
  refine cnt_congr _ fun i hi => ⟨fun ⟨hc, _⟩ => hc, fun hc => ⟨hc, hi, ?_⟩⟩
  obtain ⟨_, ho, _⟩ := hc
  obtain ⟨y, hy⟩ := ho.some
  exact h.seen i hi hi (by rw [hy]; simp)
end Go.Proofs.Ytmdmfciicoldoaa
