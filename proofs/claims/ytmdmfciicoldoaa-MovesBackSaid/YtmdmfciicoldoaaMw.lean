/- Plain: a turn of places and the turn back. -/
import Derived.Test.YtmdmfciicoldoaaMt
namespace Go.Proofs.Ytmdmfciicoldoaa

/-! ### the program's moves keep to the places that are named -/
theorem drain_in (Q : Int → Prop) (h0 : Q 0) : ∀ (k : Nat) (free : List Int) (fr nd : Int → Option Int) (out : List M), (∀ x ∈ free, Q x) → (∀ x y, fr x = some y → Q y) → (∀ m ∈ out, Q m.1 ∧ Q m.2) →
    (∀ x y, (drainF k free fr out nd).1 x = some y → Q y) ∧ ∀ m ∈ (drainF k free fr out nd).2, Q m.1 ∧ Q m.2
  | 0, _, _, _, _, _, h2, h3 => ⟨h2, h3⟩
  | k + 1, [], _, _, _, _, h2, h3 => ⟨h2, h3⟩
  | k + 1, a :: r, fr, nd, out, h1, h2, h3 => by
    have hq : Q ((fr a).getD 0) := by
      cases h : fr a with
      | none => exact h0
      | some y => exact h2 a y h
    have hf : ∀ x y, upd fr a none x = some y → Q y := fun x y h => by
      by_cases e : x = a
      · rw [e, upd_same] at h; cases h
      · rw [upd_other _ _ e] at h; exact h2 x y h
    have ho : ∀ m ∈ out ++ [(a, (fr a).getD 0)], Q m.1 ∧ Q m.2 := fun m hm => by
      rcases List.mem_append.1 hm with hm | hm
      · exact h3 m hm
      · simp at hm; subst hm; exact ⟨h1 a (by simp), hq⟩
    have hr : ∀ x ∈ r, Q x := fun x hx => h1 x (by simp [hx])
    unfold drainF
    split
    · refine drain_in Q h0 k _ _ _ _ (fun x hx => ?_) hf ho
      rcases List.mem_append.1 hx with hx | hx
      · exact hr x hx
      · simp at hx; subst hx; exact hq
    · exact drain_in Q h0 k _ _ _ _ hr hf ho
theorem cyc_in (Q : Int → Prop) (h0 : Q 0) {spare m1 : Int} (hs : Q spare) : ∀ (k : Nat) (a src : Int) (fr : Int → Option Int) (out : List M), Q a → Q src → (∀ x y, fr x = some y → Q y) → (∀ m ∈ out, Q m.1 ∧ Q m.2) →
    (∀ x y, (cycF spare m1 k a src fr out).1 x = some y → Q y) ∧ ∀ m ∈ (cycF spare m1 k a src fr out).2, Q m.1 ∧ Q m.2
  | 0, _, _, _, _, _, _, h2, h3 => ⟨h2, h3⟩
  | k + 1, a, src, fr, out, ha, hr, h2, h3 => by
    have hf : ∀ x y, upd fr a none x = some y → Q y := fun x y h => by
      by_cases e : x = a
      · rw [e, upd_same] at h; cases h
      · rw [upd_other _ _ e] at h; exact h2 x y h
    have ho : ∀ z, Q z → ∀ m ∈ out ++ [(a, z)], Q m.1 ∧ Q m.2 := fun z hz m hm => by
      rcases List.mem_append.1 hm with hm | hm
      · exact h3 m hm
      · simp at hm; subst hm; exact ⟨ha, hz⟩
    unfold cycF
    split
    · exact ⟨hf, ho _ hs⟩
    · refine cyc_in Q h0 hs k _ _ _ _ hr ?_ hf (ho _ hr)
      cases h : upd fr a none src with
      | none => exact h0
      | some y => exact hf _ _ h
theorem order_in (Q : Int → Prop) (h0 : Q 0) {l : List M} {spare : Int} (hs : Q spare) (hl : ∀ m ∈ l, Q m.1 ∧ Q m.2) : ∀ m ∈ orderF l spare, Q m.1 ∧ Q m.2 := by
  obtain ⟨h1, h2⟩ := drain_in Q h0 (l.length + 1) (freeS l l.length) (srcL l) (needS l l.length) [] (fun x hx => by
    unfold freeS at hx
    obtain ⟨m, hm, rfl⟩ := List.mem_map.1 hx
    exact (hl m (List.mem_of_mem_take (List.mem_filter.1 hm).1)).1) (fun x y h => (hl _ (srcL_mem h).1).2) (fun m hm => nomatch hm)
  unfold orderF
  generalize (drainF (l.length + 1) (freeS l l.length) (srcL l) [] (needS l l.length)).1 = f0 at *
  generalize (drainF (l.length + 1) (freeS l l.length) (srcL l) [] (needS l l.length)).2 = o0 at *
  have key : ∀ j, j ≤ l.length → (∀ x y, (finS l spare f0 o0 j).1 x = some y → Q y) ∧ ∀ m ∈ (finS l spare f0 o0 j).2, Q m.1 ∧ Q m.2 := fun j => by
    induction j with
    | zero => exact fun _ => ⟨h1, h2⟩
    | succ j ih =>
      intro hj
      obtain ⟨i1, i2⟩ := ih (by omega)
      cases h : (finS l spare f0 o0 j).1 (l[j]'(by omega)).1 with
      | none => rw [finS_none (by omega) h]; exact ⟨i1, i2⟩
      | some src =>
        rw [finS_some (by omega) h]
        have hq := (hl _ (List.getElem_mem (show j < l.length by omega))).1
        refine cyc_in Q h0 hs _ _ _ _ _ hq (i1 _ _ h) i1 (fun m hm => ?_)
        rcases List.mem_append.1 hm with hm | hm
        · exact i2 m hm
        · simp at hm; subst hm; exact ⟨hs, hq⟩
  exact (key l.length (Nat.le_refl _)).2

/-! ### one after the other -/
theorem runM_append (a : List M) : ∀ (b : List M) (x : Int), runM (a ++ b) x = runM a (runM b x) := by
  have key : ∀ (n : Nat) (b : List M), b.length = n → ∀ x, runM (a ++ b) x = runM a (runM b x) := fun n => by
    induction n with
    | zero => intro b hb x; rw [List.length_eq_zero_iff.1 hb, List.append_nil]; rfl
    | succ n ih =>
      intro b hb x
      obtain ⟨c, m, rfl⟩ : ∃ c m, b = c ++ [m] := ⟨b.dropLast, b.getLast (by intro e; rw [e] at hb; cases hb), (List.dropLast_concat_getLast _).symm⟩
      have hc : c.length = n := by simpa using hb
      rw [← List.append_assoc, runM_snoc, runM_snoc]
      by_cases e : x = m.1
      · subst e; rw [upd_same, upd_same, ih c hc]
      · rw [upd_other _ _ e, upd_other _ _ e, ih c hc]
  exact fun b => key _ b rfl

/-! ### turns -/
structure Turn (n : Nat) (f : Nat → Nat) : Prop where
  lt : ∀ i, i < n → f i < n
  one : ∀ i j, i < n → j < n → f i = f j → i = j
def swp (f : Nat → Nat) (i j : Nat) : Nat → Nat := fun k => if k = j then f i else if k = i then f j else f k
theorem Turn.id (n : Nat) : Turn n (fun i => i) := ⟨fun _ h => h, fun _ _ _ _ h => h⟩
theorem Turn.swp {n : Nat} {f : Nat → Nat} (h : Turn n f) {i j : Nat} (hi : i < n) (hj : j < n) : Turn n (swp f i j) := by
  have e : ∀ k, Go.Proofs.Ytmdmfciicoldoaa.swp f i j k = f (if k = j then i else if k = i then j else k) := fun k => by unfold Go.Proofs.Ytmdmfciicoldoaa.swp; split; rfl; split <;> rfl
  have hl : ∀ k, k < n → (if k = j then i else if k = i then j else k) < n := fun k hk => by split; exact hi; split <;> omega
  refine ⟨fun k hk => by rw [e]; exact h.lt _ (hl k hk), fun a b ha hb hab => ?_⟩
  rw [e, e] at hab
  have := h.one _ _ (hl a ha) (hl b hb) hab
  clear hab hl e
  split at this <;> split at this <;> (try split at this) <;> (try split at this) <;> omega

def thereL (n : Nat) (f : Nat → Nat) : List M := (List.range n).map fun (i : Nat) => ((f i : Int), (i : Int))
def backL (n : Nat) (f : Nat → Nat) : List M := (List.range n).map fun (i : Nat) => ((i : Int), (f i : Int))
theorem thereL_len (n : Nat) (f : Nat → Nat) : (thereL n f).length = n := by simp [thereL]
theorem backL_len (n : Nat) (f : Nat → Nat) : (backL n f).length = n := by simp [backL]
theorem thereL_next (n : Nat) (f : Nat → Nat) : thereL n f ++ [((f n : Int), (n : Int))] = thereL (n + 1) f := by simp [thereL, List.range_succ]
theorem backL_next (n : Nat) (f : Nat → Nat) : backL n f ++ [((n : Int), (f n : Int))] = backL (n + 1) f := by simp [backL, List.range_succ]
theorem thereL_mem {n : Nat} {f : Nat → Nat} {m : M} : m ∈ thereL n f ↔ ∃ i, i < n ∧ ((f i : Int), (i : Int)) = m := by simp [thereL]
theorem backL_mem {n : Nat} {f : Nat → Nat} {m : M} : m ∈ backL n f ↔ ∃ i, i < n ∧ ((i : Int), (f i : Int)) = m := by simp [backL]
theorem dist_there {n : Nat} {f : Nat → Nat} (h : Turn n f) : Dist (thereL n f) := by
  refine List.pairwise_iff_getElem.2 fun i j hi hj hij => ?_
  simp [thereL] at hi hj ⊢
  intro e
  have := h.one i j hi hj (by omega)
  omega
theorem dist_back (n : Nat) (f : Nat → Nat) : Dist (backL n f) := by
  refine List.pairwise_iff_getElem.2 fun i j hi hj hij => ?_
  simp [backL]
  omega

/-- Where places lie: among those named, or beside. -/
def InN (n : Nat) (x : Int) : Prop := x = -1 ∨ (0 ≤ x ∧ x < (n : Int))
theorem there_all {n : Nat} {f : Nat → Nat} (h : Turn n f) : ∀ m ∈ thereL n f, (0 ≤ m.1 ∧ m.1 < (n : Int)) ∧ (0 ≤ m.2 ∧ m.2 < (n : Int)) := fun m hm => by
  obtain ⟨i, hi, rfl⟩ := thereL_mem.1 hm
  have := h.lt i hi
  exact ⟨by simp only; omega, by simp only; omega⟩
theorem back_all {n : Nat} {f : Nat → Nat} (h : Turn n f) : ∀ m ∈ backL n f, (0 ≤ m.1 ∧ m.1 < (n : Int)) ∧ (0 ≤ m.2 ∧ m.2 < (n : Int)) := fun m hm => by
  obtain ⟨i, hi, rfl⟩ := backL_mem.1 hm
  have := h.lt i hi
  exact ⟨by simp only; omega, by simp only; omega⟩
theorem order_all {n : Nat} {l : List M} (hl : ∀ m ∈ l, (0 ≤ m.1 ∧ m.1 < (n : Int)) ∧ (0 ≤ m.2 ∧ m.2 < (n : Int))) : ∀ m ∈ orderF l (-1), InN n m.1 ∧ InN n m.2 := by
  rcases Nat.eq_zero_or_pos n with h | h
  · subst h
    have : l = [] := by
      cases l with
      | nil => rfl
      | cons m r => have := hl m (by simp); omega
    subst this
    intro m hm
    have : orderF [] (-1) = [] := by decide
    rw [this] at hm; cases hm
  · exact order_in (InN n) (.inr (by omega)) (.inl rfl) fun m hm => ⟨.inr (hl m hm).1, .inr (hl m hm).2⟩
theorem all_sp {n : Nat} {l : List M} (hl : ∀ m ∈ l, (0 ≤ m.1 ∧ m.1 < (n : Int)) ∧ (0 ≤ m.2 ∧ m.2 < (n : Int))) : SpOK l (-1) := fun m hm => by
  have := hl m hm
  exact ⟨by omega, by omega⟩
theorem all_inR {n : Nat} {l : List M} (hn : n ≤ 1000) (hl : ∀ m ∈ l, (0 ≤ m.1 ∧ m.1 < (n : Int)) ∧ (0 ≤ m.2 ∧ m.2 < (n : Int))) : ∀ m ∈ l, inR m.1 ∧ inR m.2 := fun m hm => by
  have := hl m hm
  exact ⟨⟨by omega, by omega⟩, ⟨by omega, by omega⟩⟩

/-- There and back again. -/
theorem there_back {n : Nat} {f : Nat → Nat} (h : Turn n f) {i : Nat} (hi : i < n) : runM (orderF (thereL n f) (-1) ++ orderF (backL n f) (-1)) (i : Int) = (i : Int) := by
  rw [runM_append]
  have h1 := (order_rightP (dist_back n f) (all_sp (back_all h))).gets _ (backL_mem.2 ⟨i, hi, rfl⟩)
  have h2 := (order_rightP (dist_there h) (all_sp (there_all h))).gets _ (thereL_mem.2 ⟨i, hi, rfl⟩)
  simp only at h1 h2
  rw [h1, h2]

/-! ### as many circles there as back -/
theorem src_turn {n : Nat} {f : Nat → Nat} (h : Turn n f) (x y : Int) : srcL (thereL n f) y = some x ↔ srcL (backL n f) x = some y := by
  constructor
  · intro e
    obtain ⟨hm, hne⟩ := srcL_mem e
    obtain ⟨i, hi, e2⟩ := thereL_mem.1 hm
    cases e2
    exact srcL_of_mem (dist_back n f) (backL_mem.2 ⟨i, hi, rfl⟩) (Ne.symm hne)
  · intro e
    obtain ⟨hm, hne⟩ := srcL_mem e
    obtain ⟨i, hi, e2⟩ := backL_mem.1 hm
    cases e2
    exact srcL_of_mem (dist_there h) (thereL_mem.2 ⟨i, hi, rfl⟩) (Ne.symm hne)
section
variable {F G : Int → Option Int} (hFG : ∀ x y, F y = some x ↔ G x = some y)
include hFG
theorem It_rev : ∀ (t : Nat) (x y : Int), It F t y = some x → It G t x = some y
  | 0, x, y, h => by rw [It_zero] at h ⊢; cases h; rfl
  | t + 1, x, y, h => by
    obtain ⟨z, hz⟩ := It_before (a := 1) (b := t) (x := y) (z := x) (by rw [Nat.add_comm]; exact h)
    have h2 := It_split hz (show It F (1 + t) y = some x by rw [Nat.add_comm]; exact h)
    rw [It_one] at hz
    exact It_next (It_rev t x z h2) ((hFG z y).1 hz)
end
theorem canon_turn {n : Nat} {f : Nat → Nat} (h : Turn n f) {i : Nat} (hi : i < n) : canon (thereL n f) i ↔ canon (backL n f) i := by
  have hFG := src_turn h
  have hGF : ∀ x y, srcL (backL n f) y = some x ↔ srcL (thereL n f) x = some y := fun x y => (hFG y x).symm
  have ha : ∀ k (hk : k < (thereL n f).length), ((thereL n f)[k]).1 = (f k : Int) := fun k hk => by simp [thereL]
  have hb : ∀ k (hk : k < (backL n f).length), ((backL n f)[k]).1 = (k : Int) := fun k hk => by simp [backL]
  have hl1 := thereL_len n f
  have hl2 := backL_len n f
  have step : ∀ k, k < n → (f k : Int) ≠ k → srcL (backL n f) (k : Int) = some (f k : Int) := fun k hk hne => srcL_of_mem (dist_back n f) (backL_mem.2 ⟨k, hk, rfl⟩) (Ne.symm hne)
  have fix : ∀ {k : Nat} {y : Int}, srcL (backL n f) (k : Int) = some y → k < n ∧ y = (f k : Int) ∧ (f k : Int) ≠ k := fun {k y} e => by
    obtain ⟨hm, hne⟩ := srcL_mem e
    obtain ⟨k', hk', e2⟩ := backL_mem.1 hm
    simp only [Prod.mk.injEq] at e2
    obtain ⟨e3, e4⟩ := e2
    obtain rfl : k' = k := by omega
    exact ⟨hk', e4.symm, by rw [e4]; exact Ne.symm hne⟩
  -- on a circle there iff on a circle back
  have hon : OnC (srcL (thereL n f)) (f i : Int) ↔ OnC (srcL (backL n f)) (i : Int) := by
    constructor
    · rintro ⟨k, hk, e⟩
      have h1 : OnC (srcL (backL n f)) (f i : Int) := ⟨k, hk, It_rev hFG k _ _ e⟩
      obtain ⟨y, hy⟩ := (show OnC (srcL (thereL n f)) (f i : Int) from ⟨k, hk, e⟩).some
      obtain ⟨hm, hne⟩ := srcL_mem hy
      obtain ⟨k', hk', e2⟩ := thereL_mem.1 hm
      simp only [Prod.mk.injEq] at e2
      obtain ⟨e3, e4⟩ := e2
      obtain rfl : k' = i := h.one _ _ hk' hi (by omega)
      have hs := (hFG y _).1 hy
      rw [← e4] at hs
      obtain ⟨t, ht, e5⟩ := h1.back (q := 0) rfl
      -- i leads to f i, which is on a circle: so is i, as f i has but one source
      have h2 : OnC (srcL (thereL n f)) (k' : Int) := (show OnC (srcL (thereL n f)) (f k' : Int) from ⟨k, hk, e⟩).step (q := 1) (by rw [It_one, hy, e4])
      obtain ⟨q, hq, e6⟩ := h2
      exact ⟨q, hq, It_rev hFG q _ _ e6⟩
    · intro ho
      obtain ⟨y, hy⟩ := ho.some
      obtain ⟨_, rfl, _⟩ := fix hy
      obtain ⟨q, hq, e⟩ := ho.step (q := 1) (by rw [It_one]; exact hy)
      exact ⟨q, hq, It_rev hGF q _ _ e⟩
  constructor
  · rintro ⟨_, ho, hn⟩
    rw [ha] at ho
    have hob := hon.1 ho
    refine ⟨by omega, by rw [hb]; exact hob, fun k hk t e => ?_⟩
    rw [hb, hb] at e
    -- back: i leads to k; so f i leads to f k there, the way round
    obtain ⟨s, _, e2⟩ := hob.back e
    obtain ⟨yi, hyi⟩ := hob.some
    obtain ⟨yk, hyk⟩ := (hob.step e).some
    obtain ⟨_, rfl, _⟩ := fix hyi
    obtain ⟨_, rfl, _⟩ := fix hyk
    -- f k leads to i leads to f i
    have h3 : It (srcL (backL n f)) (s + 1) (k : Int) = some (f i : Int) := It_next e2 hyi
    have h4 : It (srcL (backL n f)) s (f k : Int) = some (f i : Int) := It_split (a := 1) (b := s) (by rw [It_one]; exact hyk) (by rw [Nat.add_comm]; exact h3)
    refine hn k hk s ?_
    rw [ha, ha]
    exact It_rev hGF s _ _ h4
  · rintro ⟨_, ho, hn⟩
    rw [hb] at ho
    refine ⟨by omega, by rw [ha]; exact hon.2 ho, fun k hk t e => ?_⟩
    rw [ha, ha] at e
    have e2 := It_rev hFG t _ _ e
    -- back: f k leads to f i
    obtain ⟨yi, hyi⟩ := ho.some
    obtain ⟨_, rfl, _⟩ := fix hyi
    have hof := ho.step (q := 1) (by rw [It_one]; exact hyi)
    -- f k is on the circle too, and not its own source
    have hofk : OnC (srcL (thereL n f)) (f k : Int) := (hon.2 ho).step e
    obtain ⟨z, hz⟩ := hofk.some
    obtain ⟨hm, hne⟩ := srcL_mem hz
    obtain ⟨k', hk', e4⟩ := thereL_mem.1 hm
    simp only [Prod.mk.injEq] at e4
    obtain ⟨e5, e6⟩ := e4
    obtain rfl : k' = k := h.one _ _ hk' (by omega) (by omega)
    subst e6
    -- there: f i leads to f k, that to k; back: k leads to f i; i is the one that leads to f i
    have h5 : It (srcL (thereL n f)) (t + 1) (f i : Int) = some (k' : Int) := It_next e hz
    have h6 : It (srcL (backL n f)) (t + 1) (k' : Int) = some (f i : Int) := It_rev hFG _ _ _ h5
    obtain ⟨w, hw⟩ := It_before (show It (srcL (backL n f)) (t + 1) (k' : Int) = some (f i : Int) from h6)
    have h7 := It_split hw h6
    rw [It_one] at h7
    have h8 := (hFG w _).2 h7
    have h9 := (hFG (i : Int) _).2 hyi
    rw [h8] at h9
    cases h9
    -- k' leads to i: so i leads to k'
    have hok : OnC (srcL (backL n f)) (k' : Int) := by
      obtain ⟨q, hq, e10⟩ := (hon.2 ho).step h5
      exact ⟨q, hq, It_rev hFG _ _ _ e10⟩
    obtain ⟨s, _, e11⟩ := hok.back hw
    refine hn k' hk s ?_
    rw [hb, hb]
    exact e11
theorem circ_turn {n : Nat} {f : Nat → Nat} (h : Turn n f) : circN (thereL n f) = circN (backL n f) := by
  unfold circN
  rw [thereL_len, backL_len]
  exact cnt_congr n fun i hi => canon_turn h hi
end Go.Proofs.Ytmdmfciicoldoaa
