/- Going to where it is, and to a place that is kept, takes no step; going back by ones takes few. No program in sight. -/
import Derived.Test.YtgjmdcbdkdmceaaQz32
namespace Go.Proofs.Ytgjmdcbdkdmceaa.Mach
open Go.RowKit

section
variable {X : PX} {d : PS} {k : Nat}
theorem goP_at (he : endsF X.F k d = false) (hf : fromF X.F k d = k) : goP X k d = ((X.path k).1, { d with s := (X.path k).2 }) := by
  unfold goP
  rw [if_neg (by simp [he]), hf, Nat.sub_self]
  show ((X.path k).1, (⟨(X.path k).2, d.S, d.turn, d.work + ((X.path k).2.steps - (X.path k).2.steps)⟩ : PS)) = _
  rw [Int.sub_self, Int.add_zero]
theorem goP_here (H : X.Ok) (hs : d.s = (X.path k).2) (ho : overF X.F d.s = false) : goP X k d = (true, d) := by
  obtain ⟨h1, h2⟩ := H.here (j := k) (by rw [← hs]; exact ho)
  have hm : d.s.marks = k := by rw [hs]; exact h2
  have he : endsF X.F k d = false := by unfold endsF; rw [ho]; rfl
  have hon : onF X.F k d = true := by
    unfold onF
    rw [ho, hm]
    cases hb : bestF d.S k with
    | none => simp
    | some b =>
      obtain ⟨-, hb2⟩ := bestF_mem hb
      simpa using hb2
  have hf : fromF X.F k d = k := by unfold fromF; rw [if_pos hon, hm]; rfl
  rw [goP_at he hf, h1, ← hs]
theorem best_kept (hR : RisS d.S) {b : List Int} (hm : ((k : Int), b) ∈ d.S) : ∃ c, bestF d.S k = some ((k : Int), c) := by
  cases hb : bestF d.S k with
  | none =>
    have := bestF_no hb hm
    simp at this
  | some y =>
    have h1 := (bestF_mem hb).2
    have h2 := bestF_top hR hb hm (Int.le_refl _)
    have h3 : y.1 = k := Int.le_antisymm h1 h2
    exact ⟨y.2, by rw [← h3]⟩
theorem goP_kept (H : X.Ok) (hK : POk X d) {b : List Int} (hm : ((k : Int), b) ∈ d.S) : goP X k d = (true, { d with s := (X.path k).2 }) := by
  obtain ⟨i, -, e, hp, -⟩ := hK.ks.kept _ hm
  have hik : i = k := by have e' : (k : Int) = i := e; omega
  subst hik
  obtain ⟨c, hb⟩ := best_kept hK.ks.ris hm
  obtain ⟨j, hj⟩ := hK.at_
  have he : endsF X.F i d = false := by
    cases h : endsF X.F i d with
    | false => rfl
    | true =>
      unfold endsF at h
      rw [Bool.and_eq_true, hj] at h
      have := (H.short h.1 (of_decide_eq_true h.2)).1
      rw [hp] at this; cases this
  have hf : fromF X.F i d = i := by
    unfold fromF
    split
    · rename_i hon
      unfold onF at hon
      rw [hb, Bool.and_eq_true, Bool.and_eq_true] at hon
      have h1 := of_decide_eq_true hon.1.2
      have h2 := of_decide_eq_true hon.2
      have h3 : (i : Int) ≤ d.s.marks := h2
      omega
    · rw [hb]; rfl
  rw [goP_at he hf, hp]

/-- All the multiples up to a place are kept. -/
structure FewK (X : PX) (j : Nat) (q : Ms × Nat) : Prop where
  mem : ∀ x : Int, (∃ b, (x, b) ∈ q.1) ↔ (0 < x ∧ x ≤ j ∧ x % X.every = 0)
  len : (q.1.length : Int) ≤ (j : Int) / X.every
theorem FewK.none (X : PX) (t : Nat) : FewK X 0 ([], t) := ⟨fun x => by simp; omega, by simp⟩
theorem ins_length (S : Ms) (x : Int) (b : List Int) : (insS S x b).length ≤ S.length + 1 := by
  unfold insS
  have h1 : ∀ T : Ms, (T.filter fun m => decide (m.1 < x)).length + (T.filter fun m => decide (x < m.1)).length ≤ T.length := by
    intro T
    induction T with
    | nil => simp
    | cons y T ih =>
      simp only [List.filter_cons]
      split <;> split <;> simp_all <;> omega
  have := h1 S
  simp
  omega
theorem FewK.next {j : Nat} {q : Ms × Nat} (h : FewK X j q) (hev : 1 ≤ X.every) (hm : (j : Int) / X.every < X.most) : FewK X (j + 1) (keepF X (j + 1) q) := by
  have hle : (j : Int) / X.every ≤ ((j + 1 : Nat) : Int) / X.every := Int.ediv_le_ediv (by omega) (by omega)
  have hno : ¬ (q.1.any (fun y => y.1 == ((j + 1 : Nat) : Int)) = true) := fun hc => by
    obtain ⟨y, hy, hy2⟩ := List.any_eq_true.1 hc
    have e : y.1 = ((j + 1 : Nat) : Int) := by simpa using hy2
    have := (h.mem y.1).1 ⟨y.2, hy⟩
    omega
  unfold keepF
  split
  · rename_i hc
    rw [Bool.or_eq_true] at hc
    have hz : ¬ ((j + 1 : Nat) : Int) % X.every = 0 := by
      rcases hc with hc | hc
      · simpa using hc
      · exact absurd hc hno
    refine ⟨fun x => ?_, Int.le_trans h.len hle⟩
    rw [h.mem x]
    refine ⟨fun ⟨a, b, c⟩ => ⟨a, by omega, c⟩, fun ⟨a, b, c⟩ => ⟨a, ?_, c⟩⟩
    rcases Int.lt_or_eq_of_le b with b | b
    · omega
    · rw [b] at c; exact absurd c hz
  · rename_i hc
    rw [Bool.or_eq_true, not_or] at hc
    have hz : ((j + 1 : Nat) : Int) % X.every = 0 := by simpa using hc.1
    have hf : ¬ (q.1.length : Int) = X.most := by have := h.len; omega
    refine ⟨fun x => ⟨fun ⟨b, hb⟩ => ?_, fun ⟨a, b, c⟩ => ?_⟩, ?_⟩
    · rcases put_from hb with e | ⟨h1, h2⟩
      · simp only [Prod.mk.injEq] at e
        rw [e.1]
        exact ⟨by omega, by omega, hz⟩
      · have := (h.mem x).1 ⟨b, h1⟩
        exact ⟨this.1, by omega, this.2.2⟩
    · by_cases hx : x = ((j + 1 : Nat) : Int)
      · rw [hx]; exact ⟨_, put_mem⟩
      · obtain ⟨b', hb'⟩ := (h.mem x).2 ⟨a, by omega, c⟩
        exact ⟨b', put_to hf (.inr ⟨hb', hx⟩)⟩
    · have hp : (putS X.most q.1 ((j + 1 : Nat) : Int) (saveB (X.path (j + 1)).2) (choiceF X.cs q.2).1).length ≤ q.1.length + 1 := by
        unfold putS
        rw [if_neg hno]
        unfold lessS
        rw [if_neg hf]
        exact ins_length _ _ _
      have h3 : (j : Int) / X.every < ((j + 1 : Nat) : Int) / X.every := by
        refine Int.ediv_lt_of_lt_mul (by omega) ?_
        have := Int.ediv_mul_cancel (Int.dvd_of_emod_eq_zero hz)
        rw [this]; omega
      have h4 := h.len
      exact Int.le_trans (Int.ofNat_le.2 hp) (by omega)
theorem FewK.go (hev : 1 ≤ X.every) (c : Nat) : ∀ (i : Nat) {q : Ms × Nat}, FewK X i q → (X.path (i + c)).1 = true → ((i + c : Nat) : Int) / X.every < X.most → FewK X (i + c) (goK X c i q) := by
  induction c with
  | zero => intro i q h _ _; exact h
  | succ c ih =>
    intro i q h hp hm
    have e : i + (c + 1) = (i + 1) + c := by omega
    rw [e] at hp hm ⊢
    rw [goK_next (X.before hp (by omega))]
    refine ih (i + 1) (h.next hev (Int.lt_of_le_of_lt (Int.ediv_le_ediv (by omega) (by omega)) hm)) hp hm
theorem goK_idle (c : Nat) : ∀ (i : Nat) (q : Ms × Nat), (∀ t : Nat, i < t → t ≤ i + c → ¬ (t : Int) % X.every = 0) → goK X c i q = q := by
  induction c with
  | zero => intro i q _; rfl
  | succ c ih =>
    intro i q h
    show (if _ then _ else _) = _
    split
    · have e : keepF X (i + 1) q = q := by
        unfold keepF
        rw [if_pos]
        rw [Bool.or_eq_true]
        left
        have := h (i + 1) (by omega) (by omega)
        simpa using this
      rw [e]
      exact ih (i + 1) q fun t h1 h2 => h t (by omega) (by omega)
    · rfl
/-- Where going back to place k begins. -/
def floorN (X : PX) (k : Nat) : Nat := k - k % X.every.toNat
theorem floorN_le (k : Nat) : floorN X k ≤ k := Nat.sub_le _ _
theorem floorN_near (hev : 1 ≤ X.every) (k : Nat) : k < floorN X k + X.every.toNat := by
  unfold floorN
  have := Nat.mod_lt k (show 0 < X.every.toNat by omega)
  omega
theorem floorN_mul (hev : 1 ≤ X.every) (k : Nat) : (floorN X k : Int) % X.every = 0 := by
  obtain ⟨e, he⟩ : ∃ e : Nat, X.every = e := ⟨X.every.toNat, by omega⟩
  unfold floorN
  rw [he, Int.toNat_natCast, ← Int.natCast_emod]
  have : (k - k % e) % e = 0 := by
    have h1 := Nat.div_add_mod k e
    have h2 : k - k % e = e * (k / e) := by omega
    rw [h2, Nat.mul_mod_right]
  rw [this]; rfl
theorem floorN_top (hev : 1 ≤ X.every) {k t : Nat} (h1 : floorN X k < t) (h2 : t ≤ k) : ¬ (t : Int) % X.every = 0 := by
  obtain ⟨e, he⟩ : ∃ e : Nat, X.every = e := ⟨X.every.toNat, by omega⟩
  have hn := floorN_near hev k
  have hz := floorN_mul hev k
  rw [he, Int.toNat_natCast] at hn
  rw [he, ← Int.natCast_emod] at hz ⊢
  have hz' : floorN X k % e = 0 := by omega
  intro hc
  have hc' : t % e = 0 := by omega
  have h3 := Nat.div_add_mod t e
  have h4 := Nat.div_add_mod (floorN X k) e
  have h5 : floorN X k / e < t / e := by
    refine Nat.lt_of_mul_lt_mul_left (a := e) ?_
    omega
  have h6 : e * (floorN X k / e + 1) ≤ e * (t / e) := Nat.mul_le_mul_left e h5
  rw [Nat.mul_add, Nat.mul_one] at h6
  omega
theorem goP_back (H : X.Ok) {all : Nat} (hK : POk X d) (hF : FewK X all (d.S, d.turn)) (hs : d.s = (X.path (k + 1)).2) (hp : (X.path (k + 1)).1 = true) (hk : k ≤ all) :
    goP X k d = (true, { d with s := (X.path k).2, work := d.work + ((X.path k).2.steps - (X.path (floorN X k)).2.steps) }) := by
  have hev := H.ev.1
  obtain ⟨n, P⟩ := H.at_ (k + 1)
  have hm : d.s.marks = (k + 1 : Nat) := by rw [hs]; exact (P.mark hp).1
  have he : endsF X.F k d = false := by
    unfold endsF
    rw [decide_eq_false (by omega)]
    simp
  have hon : onF X.F k d = false := by
    unfold onF
    rw [decide_eq_false (p := d.s.marks ≤ (k : Int)) (by omega)]
    simp
  have hf : fromF X.F k d = floorN X k := by
    unfold fromF
    rw [if_neg (by rw [hon]; simp)]
    cases hb : bestF d.S k with
    | none =>
      rcases Nat.eq_zero_or_pos (floorN X k) with e | e
      · exact e.symm
      · obtain ⟨b, hb2⟩ := (hF.mem (floorN X k)).2 ⟨by omega, by have := floorN_le (X := X) k; omega, floorN_mul hev k⟩
        have h1 := bestF_no hb hb2
        have h2 := floorN_le (X := X) k
        have h1' : (k : Int) < (floorN X k : Int) := h1
        omega
    | some y =>
      show y.1.toNat = _
      obtain ⟨h1, h2⟩ := bestF_mem hb
      obtain ⟨h3, h4, h5⟩ := (hF.mem y.1).1 ⟨y.2, h1⟩
      obtain ⟨t, ht⟩ : ∃ t : Nat, y.1 = t := ⟨y.1.toNat, by omega⟩
      rw [ht] at h2 h3 h4 h5 ⊢
      rw [Int.toNat_natCast]
      rcases Nat.lt_trichotomy t (floorN X k) with h | h | h
      · obtain ⟨b, hb2⟩ := (hF.mem (floorN X k)).2 ⟨by omega, by have := floorN_le (X := X) k; omega, floorN_mul hev k⟩
        have h6 := bestF_top hK.ks.ris hb hb2 (by have := floorN_le (X := X) k; show (floorN X k : Int) ≤ k; omega)
        have h7 : (floorN X k : Int) ≤ y.1 := h6
        omega
      · exact h
      · exact absurd h5 (floorN_top hev h (by omega))
  unfold goP
  rw [if_neg (by simp [he]), hf, goK_idle _ _ _ (fun t h1 h2 => floorN_top hev h1 (by have := floorN_le (X := X) k; omega)), X.before hp (Nat.le_succ k)]
/-- The farthest from one mark to the next. -/
def farF (X : PX) : Nat → Int
  | 0 => 0
  | i + 1 => max (farF X i) ((X.path (i + 1)).2.steps - (X.path i).2.steps)
theorem farF_nonneg (X : PX) : ∀ i, 0 ≤ farF X i
  | 0 => Int.le_refl 0
  | i + 1 => Int.le_trans (farF_nonneg X i) (Int.le_max_left _ _)
theorem farF_ge {i m : Nat} (h : i < m) : (X.path (i + 1)).2.steps - (X.path i).2.steps ≤ farF X m := by
  induction m with
  | zero => omega
  | succ m ih =>
    rcases Nat.lt_or_ge i m with hi | hi
    · exact Int.le_trans (ih hi) (Int.le_max_left _ _)
    · have : i = m := by omega
      subst this
      exact Int.le_max_right _ _
theorem farF_le (H : X.Ok) : ∀ m, farF X m ≤ 2000
  | 0 => by show (0 : Int) ≤ 2000; omega
  | m + 1 => by
    have h1 := H.steps (m + 1)
    have h2 := H.steps m
    have h3 := H.hF
    exact Int.max_le.2 ⟨farF_le H m, by omega⟩
theorem far_sum {f c m : Nat} (h : f + c ≤ m) : (X.path (f + c)).2.steps - (X.path f).2.steps ≤ c * farF X m := by
  induction c with
  | zero => simp
  | succ c ih =>
    have h1 := ih (by omega)
    have h2 := farF_ge (X := X) (i := f + c) (m := m) (by omega)
    have e : ((c + 1 : Nat) : Int) * farF X m = c * farF X m + farF X m := by rw [Int.natCast_add, Int.add_mul]; simp
    rw [e]
    show (X.path (f + c + 1)).2.steps - _ ≤ _
    omega
theorem back_few (H : X.Ok) {all : Nat} (hk : k ≤ all) : (X.path k).2.steps - (X.path (floorN X k)).2.steps ≤ X.every * farF X all := by
  have hev := H.ev.1
  have h1 := floorN_le (X := X) k
  have h2 := floorN_near hev k
  have h3 := far_sum (X := X) (f := floorN X k) (c := k - floorN X k) (m := all) (by omega)
  rw [show floorN X k + (k - floorN X k) = k by omega] at h3
  refine Int.le_trans h3 (Int.mul_le_mul_of_nonneg_right ?_ (farF_nonneg X all))
  omega
end
end Go.Proofs.Ytgjmdcbdkdmceaa.Mach

/- How much going to a place works, plainly. -/
namespace Go.Proofs.Ytgjmdcbdkdmceaa.Mach
open Go.RowKit

section
variable {X : PX} {d : PS} {k : Nat}
theorem PX.Ok.next (H : X.Ok) (i : Nat) : (X.path i).2.steps ≤ (X.path (i + 1)).2.steps := by
  cases hb : (X.path i).1 with
  | false =>
    rw [X.stays hb (Nat.le_succ i)]
    exact Int.le_refl _
  | true =>
    obtain ⟨n', P⟩ := H.at_ i
    have s0 := H.steps i
    have s1 := H.steps (i + 1)
    have hn := path_next (E := X.E) (m := X.m) (F := X.F) hb
    have hms := H.marks i
    obtain ⟨nn, g1, g2, g3, -, -⟩ := markF_run X.E (X.F - (pathF X.E X.m X.F i).2.steps.toNat) (pathF X.E X.m X.F i).2 ⟨hms.1, by have := hms.2.1; show (X.path i).2.marks ≤ _; omega⟩
    have hF := H.hF
    have g4 := runF_steps H.hE P.sane (by show 0 ≤ (X.path i).2.steps; omega) nn (by show (X.path i).2.steps + _ ≤ _; omega)
    show _ ≤ (pathF X.E X.m X.F (i + 1)).2.steps
    rw [hn, g2, g4, g3]
    show (pathF X.E X.m X.F i).2.steps ≤ _
    omega
theorem PX.Ok.mono (H : X.Ok) {i j : Nat} (h : i ≤ j) : (X.path i).2.steps ≤ (X.path j).2.steps := by
  obtain ⟨c, rfl⟩ : ∃ c, j = i + c := ⟨j - i, by omega⟩
  clear h
  induction c with
  | zero => exact Int.le_refl _
  | succ c ih => exact Int.le_trans ih (H.next (i + c))
theorem goP_work (H : X.Ok) (hK : POk X d) : d.work ≤ (goP X k d).2.work ∧ (goP X k d).2.work ≤ d.work + 2000 := by
  unfold goP
  split
  · exact ⟨Int.le_refl _, by show d.work ≤ _; omega⟩
  · rename_i he
    obtain ⟨h1, -⟩ := fromF_place (k := k) H hK (by simpa using he)
    have h2 := H.mono h1
    have h3 := H.steps k
    have h4 := H.steps (fromF X.F k d)
    have h5 := H.hF
    refine ⟨?_, ?_⟩
    · show d.work ≤ d.work + ((X.path k).2.steps - _); omega
    · show d.work + ((X.path k).2.steps - _) ≤ _; omega
end
theorem xok_of {E : Env} {mn F : Nat} {ev mo : Int} {cs : List Int} (hE : EnvOk E) (hF : FewE E) (hm : (mn : Int) < E.es.length) (h1 : F ≤ 2000) (h2 : 1 ≤ ev ∧ ev ≤ 1000) (h3 : 1 ≤ mo ∧ mo ≤ 64) (h4 : cs.length * 8 ≤ 140737488355328) (h5 : I64s cs) (h6 : E.inp.length * 8 ≤ 140737488355328) : PX.Ok ⟨E, mn, F, ev, mo, cs⟩ :=
  ⟨hE, ⟨by show (0 : Int) ≤ (mn : Int); omega, hm⟩, h1, h2, h3, hF, h4, h5, h6⟩
end Go.Proofs.Ytgjmdcbdkdmceaa.Mach
