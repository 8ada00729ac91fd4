/- Plain: what the program's ordering computes, first part: places that nobody needs. -/
import Derived.Test.YtmdmfciicoldoaaMh
namespace Go.Proofs.Ytmdmfciicoldoaa

theorem countP_upd {l : List M} (hD : Dist l) {a : Int} (hm : ∃ m ∈ l, m.1 = a) (fr : Int → Option Int) (v : Option Int) (q : Option Int → Bool) :
    l.countP (fun m => q (fr m.1)) + (if q v then 1 else 0) = l.countP (fun m => q (upd fr a v m.1)) + (if q (fr a) then 1 else 0) := by
  induction l with
  | nil => obtain ⟨m, h, _⟩ := hm; cases h
  | cons x r ih =>
    unfold Dist at hD
    rw [List.map_cons, List.nodup_cons] at hD
    rw [List.countP_cons, List.countP_cons]
    by_cases hx : x.1 = a
    · have hr : r.countP (fun m => q (fr m.1)) = r.countP (fun m => q (upd fr a v m.1)) := by
        apply List.countP_congr
        intro m hmr
        have : m.1 ≠ a := fun e => hD.1 (by rw [hx, ← e]; exact List.mem_map_of_mem hmr)
        rw [upd_other _ _ this]
      rw [hr, hx, upd_same]; omega
    · obtain ⟨m, h, hma⟩ := hm
      have hr : ∃ m ∈ r, m.1 = a := by
        rcases List.mem_cons.1 h with rfl | h
        · exact absurd hma hx
        · exact ⟨m, h, hma⟩
      have := ih hD.2 hr
      rw [upd_other _ _ hx]; omega

/-- How many still need what a place has. -/
def cntS (l : List M) (fr : Int → Option Int) (x : Int) : Nat := l.countP fun m => fr m.1 == some x
/-- How many still get something. -/
def pend (l : List M) (fr : Int → Option Int) : Nat := l.countP fun m => (fr m.1).isSome
theorem cntS_del {l : List M} (hD : Dist l) {a : Int} (hm : ∃ m ∈ l, m.1 = a) (fr : Int → Option Int) (x : Int) : cntS l fr x = cntS l (upd fr a none) x + (if fr a = some x then 1 else 0) := by
  have h := countP_upd hD hm fr none (fun o => o == some x)
  unfold cntS
  simp at h
  rw [h]
theorem pend_del {l : List M} (hD : Dist l) {a : Int} (hm : ∃ m ∈ l, m.1 = a) (fr : Int → Option Int) (ha : fr a ≠ none) : pend l fr = pend l (upd fr a none) + 1 := by
  have h := countP_upd hD hm fr none Option.isSome
  unfold pend
  cases hf : fr a with
  | none => exact absurd hf ha
  | some y => rw [hf] at h; simpa using h

def drainF : Nat → List Int → (Int → Option Int) → List M → (Int → Option Int) → (Int → Option Int) × List M
  | 0, _, fr, out, _ => (fr, out)
  | _ + 1, [], fr, out, _ => (fr, out)
  | k + 1, a :: r, fr, out, nd =>
    if ((upd fr a none) ((fr a).getD 0)).isSome && (upd nd ((fr a).getD 0) (some ((nd ((fr a).getD 0)).getD 0 - 1)) ((fr a).getD 0)).getD 0 == 0 then
      drainF k (r ++ [(fr a).getD 0]) (upd fr a none) (out ++ [(a, (fr a).getD 0)]) (upd nd ((fr a).getD 0) (some ((nd ((fr a).getD 0)).getD 0 - 1)))
    else drainF k r (upd fr a none) (out ++ [(a, (fr a).getD 0)]) (upd nd ((fr a).getD 0) (some ((nd ((fr a).getD 0)).getD 0 - 1)))
theorem drain_step {k : Nat} {a src n : Int} {r : List Int} {fr nd : Int → Option Int} {out : List M} {b : Bool} (hs : fr a = some src) (hn : (nd src).getD 0 = n) (hb : (((upd fr a none) src).isSome && (n - 1 == 0)) = b) :
    drainF (k + 1) (a :: r) fr out nd = drainF k (if b then r ++ [src] else r) (upd fr a none) (out ++ [(a, src)]) (upd nd src (some (n - 1))) := by
  subst hn hb
  have e : (fr a).getD 0 = src := by rw [hs]; rfl
  show (if _ then _ else _) = _
  rw [e, upd_same]
  simp only [Option.getD_some]
  split <;> rfl

structure DInv (l : List M) (free : List Int) (fr nd : Int → Option Int) : Prop where
  sub : ∀ x y, fr x = some y → srcL l x = some y
  need : ∀ x, (nd x).getD 0 = (cntS l fr x : Int)
  nodup : free.Nodup
  zero : ∀ x ∈ free, fr x ≠ none ∧ cntS l fr x = 0
  all : ∀ x, fr x ≠ none → cntS l fr x = 0 → x ∈ free

theorem DInv.target {l : List M} {free : List Int} {fr nd : Int → Option Int} (h : DInv l free fr nd) {x y : Int} (hx : fr x = some y) : ∃ m ∈ l, m.1 = x := ⟨(x, y), (srcL_mem (h.sub x y hx)).1, rfl⟩
theorem cntS_pos {l : List M} {fr : Int → Option Int} {a x : Int} (hm : ∃ m ∈ l, m.1 = a) (h : fr a = some x) : 0 < cntS l fr x := by
  obtain ⟨m, hm, rfl⟩ := hm
  exact List.countP_pos_iff.2 ⟨m, hm, by simp [h]⟩
theorem cntS_some {l : List M} {fr : Int → Option Int} {x : Int} (h : 0 < cntS l fr x) : ∃ m ∈ l, fr m.1 = some x := by
  obtain ⟨m, hm, e⟩ := List.countP_pos_iff.1 h
  exact ⟨m, hm, by simpa using e⟩

theorem DInv.step {l : List M} (hD : Dist l) {a src n : Int} {r : List Int} {fr nd : Int → Option Int} (h : DInv l (a :: r) fr nd) (hs : fr a = some src) (hn : (nd src).getD 0 = n) {b : Bool} (hb : (((upd fr a none) src).isSome && (n - 1 == 0)) = b) :
    DInv l (if b then r ++ [src] else r) (upd fr a none) (upd nd src (some (n - 1))) := by
  have hT := h.target hs
  have hnod := List.nodup_cons.1 h.nodup
  have hc : ∀ x, cntS l fr x = cntS l (upd fr a none) x + (if some src = some x then 1 else 0) := fun x => by rw [cntS_del hD hT fr x, hs]
  have hsrc : src ∉ r := fun hm => by
    have := (h.zero src (by simp [hm])).2
    have := cntS_pos hT hs
    omega
  have hr : ∀ x ∈ r, upd fr a none x ≠ none ∧ cntS l (upd fr a none) x = 0 := fun x hx => by
    obtain ⟨h1, h2⟩ := h.zero x (by simp [hx])
    have hxa : x ≠ a := fun e => by subst e; exact hnod.1 hx
    rw [upd_other _ _ hxa]
    exact ⟨h1, by have := hc x; omega⟩
  have hneed : ∀ x, (upd nd src (some (n - 1)) x).getD 0 = (cntS l (upd fr a none) x : Int) := fun x => by
    by_cases e : x = src
    · subst e
      rw [upd_same, ← hn, Option.getD_some, h.need]
      have := hc x
      rw [if_pos rfl] at this
      omega
    · rw [upd_other _ _ e, h.need]
      have := hc x
      rw [if_neg (fun h => e (Option.some.inj h).symm)] at this
      omega
  have hn1 : n - 1 = (cntS l (upd fr a none) src : Int) := by
    have := hneed src
    rw [upd_same] at this
    exact this
  have hsub : ∀ x y, upd fr a none x = some y → srcL l x = some y := fun x y hx => by
    by_cases e : x = a
    · subst e; rw [upd_same] at hx; cases hx
    · rw [upd_other _ _ e] at hx; exact h.sub x y hx
  have hall : ∀ x, upd fr a none x ≠ none → cntS l (upd fr a none) x = 0 → x ∈ r ∨ x = src ∧ b = true := fun x hx hz => by
    have hxa : x ≠ a := fun e => by subst e; rw [upd_same] at hx; exact hx rfl
    by_cases e : x = src
    · subst e
      refine .inr ⟨rfl, ?_⟩
      rw [← hb, hn1, hz]
      cases hf : upd fr a none x with
      | none => exact absurd hf hx
      | some y => rfl
    · left
      have := hc x
      rw [if_neg (fun h => e (Option.some.inj h).symm)] at this
      rw [upd_other _ _ hxa] at hx
      have := h.all x hx (by omega)
      simpa [hxa] using this
  cases b
  · refine ⟨hsub, hneed, hnod.2, hr, fun x hx hz => ?_⟩
    rcases hall x hx hz with h1 | ⟨_, h2⟩
    · exact h1
    · cases h2
  · rw [Bool.and_eq_true] at hb
    refine ⟨hsub, hneed, ?_, fun x hx => ?_, fun x hx hz => ?_⟩
    · rw [if_pos rfl, List.nodup_append]
      exact ⟨hnod.2, by simp, fun x hx y hy e => by simp at hy; subst hy; subst e; exact hsrc hx⟩
    · rw [if_pos rfl, List.mem_append] at hx
      rcases hx with hx | hx
      · exact hr x hx
      · simp at hx; subst hx
        refine ⟨fun e => (by rw [e] at hb; exact absurd hb.1 (by decide)), ?_⟩
        have h2 := hb.2
        rw [hn1] at h2
        simpa using h2
    · rw [if_pos rfl, List.mem_append]
      rcases hall x hx hz with h1 | ⟨h1, _⟩
      · exact .inl h1
      · exact .inr (by simp [h1])

/-- The counts that the program makes. -/
def needS (l : List M) : Nat → Int → Option Int
  | 0 => fun _ => none
  | j + 1 => match l[j]? with
    | none => needS l j
    | some m => if m.1 = m.2 then needS l j else upd (needS l j) m.2 (some ((needS l j m.2).getD 0 + 1))
theorem needS_succ {l : List M} {j : Nat} (hj : j < l.length) : needS l (j + 1) = if l[j].1 = l[j].2 then needS l j else upd (needS l j) l[j].2 (some ((needS l j l[j].2).getD 0 + 1)) := by
  show (match l[j]? with | none => _ | some m => _) = _
  rw [List.getElem?_eq_getElem hj]
/-- How many of the first moves take from a place. -/
def takes (l : List M) (x : Int) : Nat := l.countP fun m => m.1 != m.2 && m.2 == x
theorem needS_is (l : List M) : ∀ j, j ≤ l.length → ∀ x, (needS l j x).getD 0 = (takes (l.take j) x : Int)
  | 0, _, x => rfl
  | j + 1, hj, x => by
    have hjl : j < l.length := by omega
    rw [needS_succ hjl]
    have ih := needS_is l j (by omega)
    have ht : takes (l.take (j + 1)) x = takes (l.take j) x + (if l[j].1 != l[j].2 && l[j].2 == x then 1 else 0) := by
      unfold takes
      rw [List.take_succ_eq_append_getElem hjl, List.countP_append, List.countP_singleton]
    rw [ht]
    by_cases he : l[j].1 = l[j].2
    · rw [if_pos he, ih x]; simp [he]
    · rw [if_neg he]
      by_cases hx : x = l[j].2
      · subst hx
        rw [upd_same, Option.getD_some, ih]; simp [he]
      · rw [upd_other _ _ hx, ih]
        have : (l[j].2 == x) = false := by simpa using fun h => hx h.symm
        simp [this]
/-- The places that are free at the beginning. -/
def freeS (l : List M) (j : Nat) : List Int := ((l.take j).filter fun m => (srcL l m.1).isSome && (needS l l.length m.1).getD 0 == 0).map (·.1)
theorem takes_cnt {l : List M} (hD : Dist l) (x : Int) : takes l x = cntS l (srcL l) x := by
  unfold takes cntS
  refine List.countP_congr fun m hm => ?_
  by_cases he : m.1 = m.2
  · have : srcL l m.1 = none := by
      cases h : srcL l m.1 with
      | none => rfl
      | some y =>
        obtain ⟨h1, h2⟩ := srcL_mem h
        have := dist_mem hD hm h1 rfl
        exact absurd (by rw [this] at he; exact he) h2
    rw [this]; simp [he]
  · rw [srcL_of_mem hD hm he]
    simp [he]
theorem start_inv {l : List M} (hD : Dist l) : DInv l (freeS l l.length) (srcL l) (needS l l.length) := by
  have hneed : ∀ x, (needS l l.length x).getD 0 = (cntS l (srcL l) x : Int) := fun x => by
    rw [needS_is l _ (Nat.le_refl _), List.take_length, takes_cnt hD]
  refine ⟨fun x y h => h, hneed, ?_, fun x hx => ?_, fun x hx hz => ?_⟩
  · unfold freeS
    rw [List.take_length]
    exact List.Sublist.nodup (List.Sublist.map _ List.filter_sublist) hD
  · unfold freeS at hx
    rw [List.take_length, List.mem_map] at hx
    obtain ⟨m, hm, rfl⟩ := hx
    rw [List.mem_filter, Bool.and_eq_true] at hm
    obtain ⟨hm, h1, h2⟩ := hm
    refine ⟨fun e => (by rw [e] at h1; cases h1), ?_⟩
    rw [hneed] at h2
    simpa using h2
  · unfold freeS
    rw [List.take_length, List.mem_map]
    cases hf : srcL l x with
    | none => exact absurd hf hx
    | some y =>
      obtain ⟨h1, _⟩ := srcL_mem hf
      refine ⟨(x, y), List.mem_filter.2 ⟨h1, ?_⟩, rfl⟩
      rw [Bool.and_eq_true]
      refine ⟨by simp [hf], ?_⟩
      simp only [hneed, hz]; rfl
theorem pend_le (l : List M) (fr : Int → Option Int) : pend l fr ≤ l.length := List.countP_le_length
end Go.Proofs.Ytmdmfciicoldoaa
