/- Plain: what the program's moves do, one by one; how many they are. -/
import Derived.Test.YtmdmfciicoldoaaMo
namespace Go.Proofs.Ytmdmfciicoldoaa

/-- Whose it is what a place has, when moves have been done one by one. -/
def runM (out : List M) : Int → Int := out.foldl (fun h m => upd h m.1 (h m.2)) id
theorem runM_snoc (out : List M) (m : M) : runM (out ++ [m]) = upd (runM out) m.1 (runM out m.2) := by
  unfold runM; rw [List.foldl_append]; rfl

/-- What is done is done, what is left is as it was. -/
def Sim (l : List M) (spare : Int) (fr : Int → Option Int) (out : List M) : Prop := ∀ x, x ≠ spare → runM out x = if fr x = none then (srcL l x).getD x else x
/-- Nobody needs what has been overwritten. -/
def NoNeed (l : List M) (fr : Int → Option Int) : Prop := ∀ x, srcL l x ≠ none → fr x = none → cntS l fr x = 0

theorem sim_move {l : List M} {spare : Int} {fr : Int → Option Int} {out : List M} {a s : Int} (h : Sim l spare fr out) (ha : srcL l a = some s) (hv : runM out s = s) : Sim l spare (upd fr a none) (out ++ [(a, s)]) := fun x hx => by
  rw [runM_snoc]
  by_cases e : x = a
  · subst e
    rw [upd_same, upd_same, if_pos rfl, ha, hv]; rfl
  · rw [upd_other _ _ e, upd_other _ _ e]; exact h x hx

/-- What the program's first part leaves. -/
structure Drained (l : List M) (spare : Int) (fr : Int → Option Int) (out : List M) (n : Nat) : Prop where
  sim : Sim l spare fr out
  no : NoNeed l fr
  num : out.length + pend l fr = n
  sp : ∀ m ∈ out, m.1 ≠ spare ∧ m.2 ≠ spare
  ring : ∀ x, OnC (srcL l) x → fr x ≠ none

theorem drain_all {l : List M} {spare : Int} (hD : Dist l) (hS : SpOK l spare) {n : Nat} : ∀ (k : Nat) (free : List Int) (fr nd : Int → Option Int) (out : List M), DInv l free fr nd → Drained l spare fr out n → pend l fr < k →
    ∃ nd', DInv l [] (drainF k free fr out nd).1 nd' ∧ Drained l spare (drainF k free fr out nd).1 (drainF k free fr out nd).2 n
  | 0, _, _, _, _, _, _, hk => by omega
  | k + 1, [], fr, nd, out, hi, hd, _ => ⟨nd, hi, hd⟩
  | k + 1, a :: r, fr, nd, out, hi, hd, hk => by
    obtain ⟨hfa, hca⟩ := hi.zero a (by simp)
    cases hs : fr a with
    | none => exact absurd hs hfa
    | some src =>
      obtain ⟨n', hn⟩ : ∃ n', (nd src).getD 0 = n' := ⟨_, rfl⟩
      obtain ⟨b, hb⟩ : ∃ b, (((upd fr a none) src).isSome && (n' - 1 == 0)) = b := ⟨_, rfl⟩
      rw [drain_step hs hn hb]
      have hsl := hi.sub _ _ hs
      obtain ⟨hmem, hne⟩ := srcL_mem hsl
      have hT : ∃ m ∈ l, m.1 = a := ⟨(a, src), hmem, rfl⟩
      have hpd : pend l fr = pend l (upd fr a none) + 1 := pend_del hD hT fr hfa
      obtain ⟨sp1, sp2⟩ := hS _ hmem
      refine drain_all hD hS k _ _ _ _ (hi.step hD hs hn hb) ⟨?_, fun x hx hf => ?_, ?_, fun m hm => ?_, fun x hx => ?_⟩ (by omega)
      · refine sim_move hd.sim hsl ?_
        rw [hd.sim src sp2]
        cases hf : fr src with
        | some y => simp
        | none =>
          rw [if_pos rfl]
          cases hs2 : srcL l src with
          | none => rfl
          | some y =>
            have := hd.no src (by rw [hs2]; simp) hf
            have := cntS_pos hT hs
            omega
      · have hle : cntS l (upd fr a none) x ≤ cntS l fr x := by rw [cntS_del hD hT fr x]; omega
        by_cases e : x = a
        · subst e; omega
        · rw [upd_other _ _ e] at hf
          have := hd.no x hx hf
          omega
      · have := hd.num
        simp only [List.length_append, List.length_singleton]
        omega
      · rcases List.mem_append.1 hm with h | h
        · exact hd.sp m h
        · simp at h; subst h; exact ⟨sp1, sp2⟩
      · by_cases e : x = a
        · subst e
          exfalso
          -- somebody on the circle still needs it
          obtain ⟨c, hc, hx2⟩ := hx
          obtain ⟨p, hp⟩ := It_before (show It (srcL l) (c - 1 + 1) x = some x by rw [show c - 1 + 1 = c by omega]; exact hx2)
          have hpx := It_split hp (show It (srcL l) (c - 1 + 1) x = some x by rw [show c - 1 + 1 = c by omega]; exact hx2)
          rw [It_one] at hpx
          have hop : OnC (srcL l) p := OnC.step ⟨c, hc, hx2⟩ hp
          have hfp := hd.ring p hop
          cases hfp2 : fr p with
          | none => exact hfp hfp2
          | some z =>
            have := hi.sub _ _ hfp2
            rw [hpx] at this; cases this
            have := cntS_pos (hi.target hfp2) hfp2
            omega
        · rw [upd_other _ _ e]; exact hd.ring x hx

/-- How many get something else than they have. -/
def nonself (l : List M) : Nat := l.countP fun m => m.1 != m.2
theorem pend_start {l : List M} (hD : Dist l) : pend l (srcL l) = nonself l := by
  unfold pend nonself
  refine List.countP_congr fun m hm => ?_
  by_cases he : m.1 = m.2
  · have : srcL l m.1 = none := by
      cases h : srcL l m.1 with
      | none => rfl
      | some y =>
        obtain ⟨h1, h2⟩ := srcL_mem h
        have := dist_mem hD hm h1 rfl
        exact absurd (by rw [this] at he; exact he) h2
    rw [this]; simp [he]
  · rw [srcL_of_mem hD hm he]; simp [he]

/-- All that is left runs in circles. -/
theorem PInv.onC {l : List M} {f0 : Int → Option Int} (hp : PInv l f0) {x : Int} (hx : f0 x ≠ none) : OnC f0 x := by
  have hway : ∀ q, ∃ z, It f0 q x = some z ∧ f0 z ≠ none := fun q => by
    induction q with
    | zero => exact ⟨x, rfl, hx⟩
    | succ q ih =>
      obtain ⟨z, hz, hf⟩ := ih
      cases hfz : f0 z with
      | none => exact absurd hfz hf
      | some y => exact ⟨y, It_next hz hfz, hp.into z y hfz⟩
  refine Classical.byContradiction fun hno => ?_
  have hno' : ∀ s q, 1 ≤ q → q ≤ s → It f0 q x ≠ some x := fun s q h1 _ h2 => hno ⟨q, h1, h2⟩
  have key : ∀ q, ∃ i, ∃ hi : i < l.length, It f0 q x = some l[i].1 := fun q => by
    obtain ⟨z, hz, hf⟩ := hway q
    cases hfz : f0 z with
    | none => exact absurd hfz hf
    | some y =>
      obtain ⟨i, hi, e, _⟩ := target_of (hp.sub z y hfz)
      exact ⟨i, hi, by rw [hz, e]⟩
  obtain ⟨φ, hφ⟩ := Classical.axiomOfChoice key
  have := pigeons l.length (l.length + 1) φ (fun q _ => (hφ q).1) (fun p q hpl hql e => by
    obtain ⟨h1, e1⟩ := hφ p
    obtain ⟨h2, e2⟩ := hφ q
    have e3 : It f0 p x = some l[φ q].1 := by rw [e1]; simp only [e]
    rcases Nat.lt_trichotomy p q with h | h | h
    · exact absurd e2 (way_one hp (hno' q) p q _ h (Nat.le_refl _) e3)
    · exact h
    · exact absurd e3 (way_one hp (hno' p) q p _ h (Nat.le_refl _) e2))
  omega
theorem PInv.way {l : List M} {f0 : Int → Option Int} (hp : PInv l f0) : ∀ (t : Nat) (x z : Int), It f0 t x = some z → It (srcL l) t x = some z
  | 0, x, z, h => h
  | t + 1, x, z, h => by
    cases hf : f0 x with
    | none => simp [It, hf] at h
    | some y =>
      rw [It_succ hf] at h
      rw [It_succ (hp.sub x y hf)]
      exact PInv.way hp t y z h
theorem OnC.sub {l : List M} {f0 : Int → Option Int} (hp : PInv l f0) {x : Int} (h : OnC f0 x) : OnC (srcL l) x := by
  obtain ⟨k, hk, hx⟩ := h
  exact ⟨k, hk, hp.way k x x hx⟩
/-- From what is left the way is the list's own. -/
theorem PInv.same {l : List M} {f0 : Int → Option Int} (hp : PInv l f0) : ∀ (t : Nat) (x z : Int), f0 x ≠ none → It (srcL l) t x = some z → It f0 t x = some z
  | 0, x, z, _, h => h
  | t + 1, x, z, hx, h => by
    cases hf : f0 x with
    | none => exact absurd hf hx
    | some y =>
      rw [It_succ (hp.sub x y hf)] at h
      rw [It_succ hf]
      exact PInv.same hp t y z (hp.into x y hf) h

open Classical in
theorem cnt_succ (p : Nat → Prop) (n : Nat) : cnt p (n + 1) = cnt p n + if p n then 1 else 0 := rfl

/-- The second part, so far. -/
structure Fin (l : List M) (spare : Int) (n : Nat) (j : Nat) (fr : Int → Option Int) (out : List M) : Prop where
  perm : PInv l fr
  sim : Sim l spare fr out
  left : ∀ x, fr x ≠ none ↔ OnC (srcL l) x ∧ ∀ k, (hk : k < l.length) → k < j → ∀ t, It (srcL l) t x ≠ some l[k].1
  num : out.length + pend l fr = n + cnt (canon l) j

theorem cyc_all {l : List M} {spare : Int} (hD : Dist l) (hS : SpOK l spare) {m1 : Int} {f0 : Int → Option Int} (hp : PInv l f0) (hm1 : m1 ≠ spare) {n : Nat} : ∀ (k st : Nat) (a s : Int) (fr : Int → Option Int) (out : List M),
    CI f0 m1 st a s fr → Sim l spare fr out → runM out spare = m1 → out.length + pend l fr = n → pend l fr < k →
    Sim l spare (cycF spare m1 k a s fr out).1 (cycF spare m1 k a s fr out).2 ∧ (cycF spare m1 k a s fr out).2.length + pend l (cycF spare m1 k a s fr out).1 = n ∧
    PInv l (cycF spare m1 k a s fr out).1 ∧ (∀ x, (cycF spare m1 k a s fr out).1 x = none ↔ f0 x = none ∨ ∃ t, It f0 t m1 = some x)
  | 0, _, _, _, _, _, _, _, _, _, hk => by omega
  | k + 1, st, a, s, fr, out, hc, hsim, hsp, hn, hk => by
    have hlive := hc.live hp
    have hsl := hp.sub _ _ hc.next
    obtain ⟨hmem, hne⟩ := srcL_mem hsl
    have hT : ∃ m ∈ l, m.1 = a := ⟨(a, s), hmem, rfl⟩
    have hpd : pend l fr = pend l (upd fr a none) + 1 := pend_del hD hT fr (by rw [hlive]; simp)
    obtain ⟨sp1, sp2⟩ := hS _ hmem
    by_cases hs : s = m1
    · rw [cyc_end hs]
      subst hs
      obtain ⟨h1, h2, h3⟩ := hc.done hp
      refine ⟨fun x hx => ?_, ?_, h1, h2⟩
      · show runM (out ++ [(a, spare)]) x = _
        rw [runM_snoc]
        by_cases e : x = a
        · subst e
          show upd _ _ _ _ = if upd fr x none x = none then _ else _
          rw [upd_same, upd_same, if_pos rfl, hsl, hsp]; rfl
        · show upd _ _ _ _ = if upd fr a none x = none then _ else _
          rw [upd_other _ _ e, upd_other _ _ e]; exact hsim x hx
      · show (out ++ [(a, spare)]).length + pend l (upd fr a none) = n
        simp only [List.length_append, List.length_singleton]
        omega
    · rw [cyc_go hs]
      obtain ⟨s', hs', hc'⟩ := hc.step hp hs
      rw [hs']
      refine cyc_all hD hS hp hm1 k (st + 1) s s' _ _ hc' (sim_move hsim hsl ?_) ?_ (by simp only [List.length_append, List.length_singleton]; omega) (by omega)
      · have hfs : fr s ≠ none := fun e => by
          have : upd fr a none s = none := by
            by_cases e2 : s = a
            · rw [e2, upd_same]
            · rw [upd_other _ _ e2]; exact e
          rw [hs'] at this; cases this
        rw [hsim s sp2, if_neg hfs]
      · rw [runM_snoc]
        rw [upd_other _ _ (Ne.symm sp1)]
        exact hsp

theorem fin_all {l : List M} {spare : Int} (hD : Dist l) (hS : SpOK l spare) {n : Nat} {fr0 : Int → Option Int} {out0 : List M} (h0 : Fin l spare n 0 fr0 out0) : ∀ j, j ≤ l.length → Fin l spare n j (finS l spare fr0 out0 j).1 (finS l spare fr0 out0 j).2
  | 0, _ => h0
  | j + 1, hj => by
    have ih := fin_all hD hS h0 j (by omega)
    have hjl : j < l.length := by omega
    cases hs : (finS l spare fr0 out0 j).1 l[j].1 with
    | none =>
      rw [finS_none hjl hs]
      have hnc : ¬ canon l j := fun ⟨_, ho, hn⟩ => ((ih.left l[j].1).2 ⟨ho, fun k hk hkj t => hn k hkj t⟩) hs
      refine ⟨ih.perm, ih.sim, fun x => ?_, ?_⟩
      · rw [ih.left x]
        constructor
        · rintro ⟨ho, hn⟩
          refine ⟨ho, fun k hk hkj t ht => ?_⟩
          by_cases e : k = j
          · subst e
            refine ((ih.left l[k].1).2 ⟨ho.step ht, fun k' hk' hkj' t' ht' => hn k' hk' hkj' (t + t') (It_trans ht ht')⟩) hs
          · exact hn k hk (by omega) t ht
        · rintro ⟨ho, hn⟩
          exact ⟨ho, fun k hk hkj t => hn k hk (by omega) t⟩
      · rw [ih.num, cnt_succ, if_neg hnc]
        rfl
    | some src =>
      rw [finS_some hjl hs]
      generalize (finS l spare fr0 out0 j).1 = f0 at *
      generalize (finS l spare fr0 out0 j).2 = o0 at *
      obtain ⟨m1, hm1⟩ : ∃ m1, l[j].1 = m1 := ⟨_, rfl⟩
      rw [hm1] at hs ⊢
      have hsp1 : m1 ≠ spare := by rw [← hm1]; exact (hS _ (List.getElem_mem hjl)).1
      have hlive : f0 m1 ≠ none := by rw [hs]; simp
      have hcan : canon l j := by
        obtain ⟨ho, hn⟩ := (ih.left m1).1 hlive
        refine ⟨hjl, by rw [hm1]; exact ho, fun k hk t => by rw [hm1]; exact hn k (by omega) hk t⟩
      have hrm : runM o0 m1 = m1 := by rw [ih.sim m1 hsp1, if_neg hlive]
      have hsim1 : Sim l spare f0 (o0 ++ [(spare, m1)]) := fun x hx => by
        rw [runM_snoc, upd_other _ _ hx]; exact ih.sim x hx
      have hsp2 : runM (o0 ++ [(spare, m1)]) spare = m1 := by rw [runM_snoc, upd_same]; exact hrm
      obtain ⟨h1, h2, h3, h4⟩ := cyc_all hD hS ih.perm hsp1 (n := n + cnt (canon l) (j + 1)) (l.length + 1) 0 m1 src f0 (o0 ++ [(spare, m1)]) (CI.start hs) hsim1 hsp2
        (by
          have := ih.num
          rw [cnt_succ, if_pos hcan]
          simp only [List.length_append, List.length_singleton]
          omega) (Nat.lt_succ_of_le (pend_le _ _))
      refine ⟨h3, h1, fun x => ?_, h2⟩
      rw [Ne, h4 x, not_or]
      constructor
      · rintro ⟨hx, hno⟩
        obtain ⟨ho, hn⟩ := (ih.left x).1 hx
        refine ⟨ho, fun k hk hkj t ht => ?_⟩
        by_cases e : k = j
        · subst e
          rw [hm1] at ht
          obtain ⟨t', _, ht'⟩ := ho.back ht
          exact hno ⟨t', ih.perm.same t' m1 x hlive ht'⟩
        · exact hn k hk (by omega) t ht
      · rintro ⟨ho, hn⟩
        refine ⟨(ih.left x).2 ⟨ho, fun k hk hkj t => hn k hk (by omega) t⟩, ?_⟩
        rintro ⟨t, ht⟩
        have hw := ih.perm.way t m1 x ht
        have hom : OnC (srcL l) m1 := ((ih.left m1).1 hlive).1
        obtain ⟨t', _, ht'⟩ := hom.back hw
        exact hn j hjl (by omega) t' (by rw [hm1]; exact ht')

/-- THE ORDER IS RIGHT. -/
theorem order_right {l : List M} {spare : Int} (hD : Dist l) (hS : SpOK l spare) :
    (orderF l spare).length = circN l + nonself l ∧ (circN l = 0 → ∀ m ∈ orderF l spare, m.1 ≠ spare ∧ m.2 ≠ spare) ∧ (∀ x, x ≠ spare → runM (orderF l spare) x = (srcL l x).getD x) := by
  obtain ⟨nd', hi, hd⟩ := drain_all hD hS (n := nonself l) (l.length + 1) (freeS l l.length) (srcL l) (needS l l.length) [] (start_inv hD)
    ⟨fun x _ => by
      cases h : srcL l x with
      | none => simp [runM]
      | some y => simp [runM], fun x hx hf => absurd hf hx, by simp [pend_start hD], fun m hm => by simp at hm, fun x hx => by obtain ⟨y, hy⟩ := hx.some; rw [hy]; simp⟩ (Nat.lt_succ_of_le (pend_le _ _))
  unfold orderF
  generalize (drainF (l.length + 1) (freeS l l.length) (srcL l) [] (needS l l.length)).1 = rf at *
  generalize (drainF (l.length + 1) (freeS l l.length) (srcL l) [] (needS l l.length)).2 = ro at *
  have hp := drained hD hi
  have h0 : Fin l spare (nonself l) 0 rf ro := ⟨hp, hd.sim, fun x => ⟨fun hx => ⟨(hp.onC hx).sub hp, fun k hk h => by omega⟩, fun h => hd.ring x h.1⟩, by rw [hd.num]; rfl⟩
  have hf := fin_all hD hS h0 l.length (Nat.le_refl _)
  have hnone : ∀ x, (finS l spare rf ro l.length).1 x = none := fun x => by
    refine Classical.byContradiction fun hx => ?_
    obtain ⟨ho, hn⟩ := (hf.left x).1 hx
    obtain ⟨y, hy⟩ := ho.some
    obtain ⟨i, hi2, e, _⟩ := target_of hy
    exact hn i hi2 hi2 0 (by rw [e]; rfl)
  have hp0 : pend l (finS l spare rf ro l.length).1 = 0 := by
    unfold pend
    rw [List.countP_eq_zero]
    intro m _
    rw [hnone]; simp
  refine ⟨?_, fun hc => ?_, fun x hx => ?_⟩
  · have := hf.num
    rw [hp0] at this
    unfold circN
    omega
  · -- no circle is opened: nothing is added
    have hcan : ∀ j, j ≤ l.length → cnt (canon l) j = 0 := fun j hj => by
      have hmono : ∀ d, cnt (canon l) j ≤ cnt (canon l) (j + d) := fun d => by
        induction d with
        | zero => exact Nat.le_refl _
        | succ d ih =>
          refine Nat.le_trans ih ?_
          show _ ≤ cnt (canon l) (j + d) + _
          omega
      have := hmono (l.length - j)
      rw [show j + (l.length - j) = l.length by omega] at this
      unfold circN at hc
      omega
    have hsame : ∀ j, j ≤ l.length → finS l spare rf ro j = (rf, ro) := fun j => by
      induction j with
      | zero => intro _; rfl
      | succ j ih =>
        intro hj
        have ihj := ih (by omega)
        have hfj := fin_all hD hS h0 j (by omega)
        have hz := hcan (j + 1) hj
        have hnc : ¬ canon l j := fun h => by
          rw [cnt_succ, if_pos h] at hz
          omega
        rw [finS_none (by omega), ihj]
        refine Classical.byContradiction fun hx => hnc ?_
        obtain ⟨ho, hn⟩ := (hfj.left l[j].1).1 hx
        exact ⟨by omega, ho, fun k hk t => hn k (by omega) hk t⟩
    rw [hsame _ (Nat.le_refl _)]
    exact hd.sp
  · rw [hf.sim x hx, hnone, if_pos rfl]
end Go.Proofs.Ytmdmfciicoldoaa
