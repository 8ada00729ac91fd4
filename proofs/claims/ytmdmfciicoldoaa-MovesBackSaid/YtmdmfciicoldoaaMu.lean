/- Plain: rings beside one another. -/
import Derived.Test.YtmdmfciicoldoaaMt
namespace Go.Proofs.Ytmdmfciicoldoaa

/-- A ring of k places behind o others. -/
def ringL (o k : Nat) : List M := (List.range k).map fun j => (((1 + o + j : Nat) : Int), ((1 + o + (j + 1) % k : Nat) : Int))
def turnL : Nat → List Nat → List M
  | _, [] => []
  | o, k :: ks => ringL o k ++ turnL (o + k) ks
theorem ringL_len (o k : Nat) : (ringL o k).length = k := by simp [ringL]
theorem turnL_len : ∀ (ks : List Nat) (o : Nat), (turnL o ks).length = ks.sum
  | [], o => rfl
  | k :: ks, o => by rw [turnL, List.length_append, ringL_len, turnL_len ks, List.sum_cons]
theorem turnL_snoc : ∀ (ks : List Nat) (o k : Nat), turnL o (ks ++ [k]) = turnL o ks ++ ringL (o + ks.sum) k
  | [], o, k => by simp [turnL]
  | x :: ks, o, k => by
    rw [List.cons_append, turnL, turnL, turnL_snoc ks, List.append_assoc, List.sum_cons, Nat.add_assoc]
theorem ringL_snoc (o k j : Nat) (hj : j < k) : (ringL o k).take j ++ [(((1 + o + j : Nat) : Int), ((1 + o + (j + 1) % k : Nat) : Int))] = (ringL o k).take (j + 1) := by
  rw [List.take_succ_eq_append_getElem (by rw [ringL_len]; exact hj)]
  simp [ringL]

/-- There is a ring at a place of the list. -/
def RingAt (l : List M) (o k : Nat) : Prop := ∀ j, j < k → l[o + j]? = some (((1 + o + j : Nat) : Int), ((1 + o + (j + 1) % k : Nat) : Int))
theorem ring_in (l0 l1 : List M) (o k : Nat) (h : l0.length = o) : RingAt (l0 ++ (ringL o k ++ l1)) o k := fun j hj => by
  subst h
  rw [List.getElem?_append_right (by omega), List.getElem?_append_left (by rw [ringL_len]; omega)]
  have : l0.length + j - l0.length = j := by omega
  rw [this]
  simp [ringL, hj]
def Rings (l : List M) : Nat → List Nat → Prop
  | _, [] => True
  | o, k :: ks => RingAt l o k ∧ Rings l (o + k) ks
theorem rings_of : ∀ (ks : List Nat) (o : Nat) (l0 : List M), l0.length = o → Rings (l0 ++ turnL o ks) o ks
  | [], o, l0, h => trivial
  | k :: ks, o, l0, h => by
    refine ⟨ring_in l0 _ o k h, ?_⟩
    rw [turnL, ← List.append_assoc]
    exact rings_of ks (o + k) (l0 ++ ringL o k) (by rw [List.length_append, ringL_len, h])

/-- Where each stands: its place's number. -/
theorem rings_at {l : List M} : ∀ (ks : List Nat) (o : Nat), Rings l o ks → ∀ i, o ≤ i → i < o + ks.sum → ∃ y : Int, l[i]? = some (((1 + i : Nat) : Int), y) ∧ 1 ≤ y
  | [], o, _, i, h1, h2 => by simp at h2; omega
  | k :: ks, o, ⟨hr, hrs⟩, i, h1, h2 => by
    rw [List.sum_cons] at h2
    by_cases h : i < o + k
    · have := hr (i - o) (by omega)
      rw [show o + (i - o) = i by omega] at this
      refine ⟨_, by rw [this]; congr 3; omega, by omega⟩
    · exact rings_at ks (o + k) hrs i (by omega) (by omega)

theorem dist_of {l : List M} (h : ∀ i, (hi : i < l.length) → l[i].1 = ((1 + i : Nat) : Int)) : Dist l := by
  refine List.pairwise_iff_getElem.2 fun i j hi hj hij => ?_
  simp only [List.getElem_map]
  rw [h i (by simpa using hi), h j (by simpa using hj)]
  omega
theorem ring_src {l : List M} (hD : Dist l) {o k j : Nat} (hr : RingAt l o k) (hk : 2 ≤ k) (hj : j < k) : srcL l ((1 + o + j : Nat) : Int) = some ((1 + o + (j + 1) % k : Nat) : Int) := by
  have hm := hr j hj
  obtain ⟨hi, he⟩ := List.getElem?_eq_some_iff.1 hm
  have hmem := List.getElem_mem hi
  rw [he] at hmem
  refine srcL_of_mem hD hmem ?_
  intro e
  simp only at e
  have : (j + 1) % k = j := by omega
  by_cases h : j + 1 < k
  · rw [Nat.mod_eq_of_lt h] at this; omega
  · have hjk : j + 1 = k := by omega
    rw [hjk, Nat.mod_self] at this
    omega
theorem ring_way {l : List M} (hD : Dist l) {o k : Nat} (hr : RingAt l o k) (hk : 2 ≤ k) : ∀ (q j : Nat), j < k → It (srcL l) q ((1 + o + j : Nat) : Int) = some ((1 + o + (j + q) % k : Nat) : Int)
  | 0, j, hj => by rw [It_zero, Nat.add_zero, Nat.mod_eq_of_lt hj]
  | q + 1, j, hj => by
    rw [It_succ (ring_src hD hr hk hj), ring_way hD hr hk q _ (Nat.mod_lt _ (by omega))]
    congr 3
    rw [Nat.mod_add_mod]
    congr 1
    omega

theorem ring_canon {l : List M} (hl : ∀ i, (hi : i < l.length) → l[i].1 = ((1 + i : Nat) : Int)) {o k j : Nat} (hr : RingAt l o k) (hj : j < k) : canon l (o + j) ↔ 2 ≤ k ∧ j = 0 := by
  have hD := dist_of hl
  obtain ⟨hi, he⟩ := List.getElem?_eq_some_iff.1 (hr j hj)
  have hx : l[o + j].1 = ((1 + o + j : Nat) : Int) := by rw [he]
  constructor
  · rintro ⟨_, ho, hn⟩
    rw [hx] at ho
    by_cases hk : 2 ≤ k
    · refine ⟨hk, ?_⟩
      rcases Nat.eq_zero_or_pos j with h | h
      · exact h
      · exfalso
        have hw := ring_way hD hr hk (k - j) j hj
        rw [show (j + (k - j)) % k = 0 by rw [show j + (k - j) = k by omega]; exact Nat.mod_self k] at hw
        refine hn o (by omega) (k - j) ?_
        rw [hx, hw, hl o (by omega), Nat.add_zero]
    · exfalso
      have hk1 : k = 1 := by omega
      subst hk1
      have hj0 : j = 0 := by omega
      subst hj0
      obtain ⟨y, hy⟩ := ho.some
      obtain ⟨hm, hne⟩ := srcL_mem hy
      have := dist_mem hD hm (List.getElem_mem hi) (by rw [hx])
      rw [he] at this
      have h2 := congrArg Prod.snd this
      simp only at h2
      exact hne (by rw [h2])
  · rintro ⟨hk, rfl⟩
    refine ⟨hi, ⟨k, by omega, ?_⟩, fun i hio t ht => ?_⟩
    · rw [hx, ring_way hD hr hk k 0 (by omega)]
      congr 3
      rw [Nat.zero_add, Nat.mod_self]
    · rw [hx, ring_way hD hr hk t 0 (by omega), hl i (by omega)] at ht
      have := Option.some.inj ht
      omega

theorem cnt_seg (p : Nat → Prop) (o : Nat) : ∀ k, (∀ j, j < k → (p (o + j) ↔ 2 ≤ k ∧ j = 0)) → ∀ m, m ≤ k → cnt p (o + m) = cnt p o + (if 2 ≤ k ∧ 0 < m then 1 else 0)
  | k, h, 0, _ => by simp
  | k, h, m + 1, hm => by
    rw [← Nat.add_assoc, cnt_succ, cnt_seg p o k h m (by omega)]
    have := h m (by omega)
    by_cases hp : p (o + m)
    · obtain ⟨hk, rfl⟩ := this.1 hp
      rw [if_pos hp, if_neg (by omega), if_pos ⟨hk, by omega⟩]
    · rw [if_neg hp]
      by_cases hk : 2 ≤ k
      · have hm0 : m ≠ 0 := fun e => hp (this.2 ⟨hk, e⟩)
        rw [if_pos ⟨hk, by omega⟩, if_pos ⟨hk, by omega⟩]
      · rw [if_neg (fun h => hk h.1), if_neg (fun h => hk h.1)]
/-- How many rings of two or more. -/
def ringsN (ks : List Nat) : Nat := ks.countP fun k => decide (2 ≤ k)
theorem rings_cnt {l : List M} (hl : ∀ i, (hi : i < l.length) → l[i].1 = ((1 + i : Nat) : Int)) : ∀ (ks : List Nat) (o : Nat), Rings l o ks → cnt (canon l) (o + ks.sum) = cnt (canon l) o + ringsN ks
  | [], o, _ => by simp [ringsN]
  | k :: ks, o, ⟨hr, hrs⟩ => by
    rw [List.sum_cons, ← Nat.add_assoc, rings_cnt hl ks (o + k) hrs, cnt_seg _ o k (fun j hj => ring_canon hl hr hj) k (Nat.le_refl _)]
    unfold ringsN
    rw [List.countP_cons]
    by_cases hk : 2 ≤ k
    · rw [if_pos ⟨hk, by omega⟩, if_pos (by simpa using hk)]; omega
    · rw [if_neg (fun h => hk h.1), if_neg (by simpa using hk)]; omega

theorem turn_facts (ks : List Nat) : Dist (turnL 0 ks) ∧ SpOK (turnL 0 ks) 0 ∧ circN (turnL 0 ks) = ringsN ks := by
  have hr : Rings (turnL 0 ks) 0 ks := rings_of ks 0 [] rfl
  have hat := rings_at ks 0 hr
  have hlen := turnL_len ks 0
  have hl : ∀ i, (hi : i < (turnL 0 ks).length) → (turnL 0 ks)[i].1 = ((1 + i : Nat) : Int) := fun i hi => by
    obtain ⟨y, hy, _⟩ := hat i (by omega) (by omega)
    obtain ⟨_, he⟩ := List.getElem?_eq_some_iff.1 hy
    rw [he]
  refine ⟨dist_of hl, fun m hm => ?_, ?_⟩
  · obtain ⟨i, hi, rfl⟩ := List.getElem_of_mem hm
    obtain ⟨y, hy, h1⟩ := hat i (by omega) (by omega)
    obtain ⟨_, he⟩ := List.getElem?_eq_some_iff.1 hy
    rw [he]
    exact ⟨by simp only; omega, by simp only; omega⟩
  · have := rings_cnt hl ks 0 hr
    unfold circN
    rw [hlen]
    simpa [cnt] using this
end Go.Proofs.Ytmdmfciicoldoaa
