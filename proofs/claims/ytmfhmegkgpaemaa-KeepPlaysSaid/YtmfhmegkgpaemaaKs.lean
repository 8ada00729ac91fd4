/- Keep: two stores beside one another; stores that hold whatever came. -/
import Derived.Test.YtmfhmegkgpaemaaKr
namespace Go.Proofs.Ytmfhmegkgpaemaa
open Go.RowKit

theorem StAt.base {w : World} {base base' Bs : Nat} {most : Int} {v : Value} {l : List Mo} {S : Ms} (h : StAt w base Bs most v l S) (hb : base' ≤ base) : StAt w base' Bs most v l S := by
  have ho : ∀ {e : TypeId} {size n : Nat} {u : Value} {xs : List Value}, w.ownsRow base e size u n xs → w.ownsRow base' e size u n xs := by
    intro e size n u xs h
    refine ⟨h.1, ?_⟩
    rcases h.2 with h | ⟨g', c', cur', e1, e2, e3⟩
    · exact .inl h
    · exact .inr ⟨g', c', cur', e1, Nat.le_trans hb e2, e3⟩
  exact StAt.mk' h.at_ (Nat.le_trans hb h.lb) (ho h.row) (Prs.of h.len fun i h1 h2 => ⟨h.ats i h1 h2, ho (h.ps i h1 h2)⟩)
theorem StAt.keepX {w w' : World} {base A B : Nat} {mA mB : Int} {va vb : Value} {la lb : List Mo} {SA SB : Ms} (h : StAt w base A mA va la SA) (h2 : StAt w base B mB vb lb SB) (hx : KeepX w w' B vb) (hAB : A ≠ B) (hd : ∀ k, va.ownBlock = some k → vb.ownBlock ≠ some k) : StAt w' base A mA va la SA := by
  have hb : ∀ {k : Nat} {c : Array Value} {t : TypeId} {f : Nat × Nat}, w.heap[k]? = some (.cells c t f) → t ≠ 56 → vb.ownBlock ≠ some k := fun {k c t f} hk ht e => by
    obtain ⟨_, cur, hc⟩ := own_blk h2.row k e
    exact blk_ne hk hc (cells_ne ht) rfl
  have hB : ∀ {k : Nat} {c : Array Value} {t : TypeId} {f : Nat × Nat}, w.heap[k]? = some (.cells c t f) → t ≠ 51 → k ≠ B := fun {k c t f} hk ht => blk_ne hk h2.at_ (cells_ne ht)
  refine StAt.mk' ?_ h.lb ?_ (h.prs.map fun p b hp => own_same hp fun k hk => ?_)
  · rw [hx A h.lt hAB (hb h.at_ (by decide))]; exact h.at_
  · refine own_same h.row fun k hk => ?_
    obtain ⟨_, cur, hc⟩ := own_blk h.row k hk
    exact hx k (Array.getElem?_eq_some_iff.1 hc).1 (hB hc (by decide)) (hd k hk)
  · obtain ⟨_, cur, hc⟩ := own_blk hp k hk
    exact hx k (Array.getElem?_eq_some_iff.1 hc).1 (hB hc (by decide)) (hb hc (by decide))
def Two (w : World) (base A : Nat) (SA : Ms) (B : Nat) (SB : Ms) : Prop :=
  ∃ va la vb lb, StAt w base A 64 va la SA ∧ StAt w base B 64 vb lb SB ∧ A ≠ B ∧ ∀ k, va.ownBlock = some k → vb.ownBlock ≠ some k
theorem Two.symm {w : World} {base A B : Nat} {SA SB : Ms} (h : Two w base A SA B SB) : Two w base B SB A SA := by
  obtain ⟨va, la, vb, lb, h1, h2, h3, h4⟩ := h
  exact ⟨vb, lb, va, la, h2, h1, fun e => h3 e.symm, fun k hk e => h4 k e hk⟩
theorem Two.later {w w' : World} {base A B : Nat} {SA SB : Ms} (h : Two w base A SA B SB) (hb : Below w.heap.size w w') : Two w' base A SA B SB := by
  obtain ⟨va, la, vb, lb, h1, h2, h3, h4⟩ := h
  exact ⟨va, la, vb, lb, h1.later hb, h2.later hb, h3, h4⟩
theorem Two.left {w : World} {base A B : Nat} {SA SB : Ms} (h : Two w base A SA B SB) : KSt w base A 64 SA := by
  obtain ⟨va, la, vb, lb, h1, h2, h3, h4⟩ := h
  exact ⟨va, la, h1⟩
theorem put_two (x b choice : Int) (w : World) (base A B : Nat) (SA SB : Ms) (h : Two w base A SA B SB) (hR : RisS SA) (hl : SA.length ≤ 1000) (hx0 : 0 ≤ x) (hbase : base ≤ w.heap.size) (hch : -9223372036854775808 ≤ choice ∧ choice ≤ 9223372036854775807) :
    Calls Try.prog 8 #[.pointer (some ⟨A, 0, none⟩), .int .i64 x, .slice (some ⟨w.heap.size, 0, none⟩) 1 1, .int .i64 choice] (w.alloc (.cells #[.int .u8 b] 5)) fun e w' =>
      e = .returned (.int .i64 0) ∧ Two w' base A (putS 64 SA x [b] choice) B SB ∧ Below base w w' := by
  obtain ⟨va, la, vb, lb, h1, h2, h3, h4⟩ := h
  have hb : Below w.heap.size w (w.alloc (.cells #[.int .u8 b] 5)) := (Below.refl _ _).alloc (Nat.le_refl _) _
  have h1' := h1.later hb
  have h2' := h2.later hb
  refine (put_any x _ [b] choice _ base A 64 va la SA h1' hR (by have := h1.len; omega) (by decide) (by simp) hx0 (Nat.le_trans hbase hb.size) hch (fun W hW => rd_one hW)).mono ?_
  rintro e w' ⟨rfl, v', l', k1, k2, -, k4, k5, -⟩
  refine ⟨rfl, ⟨v', l', vb, lb, k1, h2'.keepX h1' k4 (fun e => h3 e.symm) (fun k hk e => h4 k e hk), h3, fun k hk => ?_⟩, (hb.mono hbase).trans k2⟩
  rcases k5 with h | h
  · exact h4 k (by rw [← h]; exact hk)
  · intro e
    obtain ⟨_, cur, hc⟩ := own_blk h2'.row k e
    have := (Array.getElem?_eq_some_iff.1 hc).1
    have := h k hk
    omega

/-! ### plain -/
def Has (S : Ms) (xs : List Int) : Prop := RisS S ∧ S.length ≤ xs.length ∧ ∀ m, m ∈ S ↔ ∃ x, x ∈ xs ∧ m = (x, [x])
theorem has_nil : Has [] [] := ⟨ris_nil, by simp, fun m => by simp⟩
theorem has_put {S : Ms} {xs : List Int} (h : Has S xs) (x c : Int) (hl : xs.length < 64) : Has (putS 64 S x [x] c) (xs ++ [x]) := by
  obtain ⟨h1, h2, h3⟩ := h
  have hf : ¬ (S.length : Int) = 64 := by omega
  refine ⟨ris_put h1 _ _ _ _, ?_, fun m => ⟨fun hm => ?_, fun hm => ?_⟩⟩
  · rw [List.length_append]
    unfold putS
    split
    · simp; omega
    · rw [lessS_no hf]
      have := ins_len (S := S) (x := x) (b := [x])
      simp; omega
  · rcases put_from hm with rfl | ⟨hm, -⟩
    · exact ⟨x, by simp, rfl⟩
    · obtain ⟨y, hy, rfl⟩ := (h3 m).1 hm
      exact ⟨y, by simp [hy], rfl⟩
  · obtain ⟨y, hy, rfl⟩ := hm
    by_cases e : y = x
    · subst e; exact put_mem
    · refine put_to hf (.inr ⟨(h3 _).2 ⟨y, ?_, rfl⟩, e⟩)
      simpa [e] using hy
theorem ris_eq : ∀ {S S' : Ms}, S.Pairwise (fun a b => a.1 < b.1) → S'.Pairwise (fun a b => a.1 < b.1) → (∀ m, m ∈ S ↔ m ∈ S') → S = S'
  | [], [], _, _, _ => rfl
  | [], a :: S', _, _, h => absurd ((h a).2 (by simp)) (by simp)
  | a :: S, [], _, _, h => absurd ((h a).1 (by simp)) (by simp)
  | a :: S, b :: S', h1, h2, h => by
    obtain ⟨h3, h4⟩ := List.pairwise_cons.1 h1
    obtain ⟨h5, h6⟩ := List.pairwise_cons.1 h2
    have hab : a = b := by
      have ha := (h a).1 (by simp)
      have hb := (h b).2 (by simp)
      rcases List.mem_cons.1 ha with e | ha
      · exact e
      · rcases List.mem_cons.1 hb with e | hb
        · exact e.symm
        · have := h5 a ha
          have := h3 b hb
          omega
    subst hab
    congr 1
    refine ris_eq h4 h6 fun m => ⟨fun hm => ?_, fun hm => ?_⟩
    · rcases List.mem_cons.1 ((h m).1 (by simp [hm])) with e | hm'
      · subst e; have := h3 m hm; omega
      · exact hm'
    · rcases List.mem_cons.1 ((h m).2 (by simp [hm])) with e | hm'
      · subst e; have := h5 m hm; omega
      · exact hm'
theorem has_eq {S S' : Ms} {xs ys : List Int} (h : Has S xs) (h' : Has S' ys) (e : ∀ x, x ∈ xs ↔ x ∈ ys) : S = S' := by
  refine ris_eq (risS_iff.1 h.1) (risS_iff.1 h'.1) fun m => ?_
  rw [h.2.2, h'.2.2]
  exact ⟨fun ⟨x, h1, h2⟩ => ⟨x, (e x).1 h1, h2⟩, fun ⟨x, h1, h2⟩ => ⟨x, (e x).2 h1, h2⟩⟩
/-- The list turned by k. -/
def trn (l : List Int) (k i : Nat) : List Int := (List.range i).map fun j => l.getD ((k + j) % l.length) 0
theorem trn_succ (l : List Int) (k i : Nat) : trn l k (i + 1) = trn l k i ++ [l.getD ((k + i) % l.length) 0] := by
  unfold trn
  rw [List.range_succ, List.map_append]; rfl
theorem trn_mem {l : List Int} {k : Nat} (x : Int) : x ∈ l ↔ x ∈ trn l k l.length := by
  unfold trn
  rw [List.mem_map]
  constructor
  · intro hx
    obtain ⟨p, hp, rfl⟩ := List.getElem_of_mem hx
    refine ⟨(p + (l.length - k % l.length)) % l.length, List.mem_range.2 (Nat.mod_lt _ (by omega)), ?_⟩
    have hk := Nat.mod_lt k (show 0 < l.length by omega)
    have e : (k + (p + (l.length - k % l.length)) % l.length) % l.length = p := by
      rw [Nat.add_mod_mod]
      have hmd := Nat.mod_add_div k l.length
      have : k + (p + (l.length - k % l.length)) = p + l.length * (k / l.length + 1) := by
        rw [Nat.mul_add]; omega
      rw [this, Nat.add_mul_mod_self_left, Nat.mod_eq_of_lt hp]
    rw [e, List.getD_eq_getElem?_getD, List.getElem?_eq_getElem hp]; rfl
  · rintro ⟨j, hj, rfl⟩
    have hj := List.mem_range.1 hj
    have hm := Nat.mod_lt (k + j) (show 0 < l.length by omega)
    rw [List.getD_eq_getElem?_getD, List.getElem?_eq_getElem hm]
    exact List.getElem_mem hm
theorem has_sum {S : Ms} {xs : List Int} (h : Has S xs) : sumB S = S.length := by
  have : ∀ L : Ms, (∀ m ∈ L, m.2.length = 1) → sumB L = L.length := by
    intro L hL
    induction L with
    | nil => rfl
    | cons a L ih =>
      have := ih fun m hm => hL m (by simp [hm])
      unfold sumB at *
      simp [hL a (by simp), this]; omega
  refine this S fun m hm => ?_
  obtain ⟨x, -, rfl⟩ := (h.2.2 m).1 hm
  rfl
theorem has_here {S : Ms} {xs : List Int} (h : Has S xs) {i : Nat} (hi : i < S.length) : S[i] = (S[i].1, [S[i].1]) := by
  obtain ⟨x, -, e⟩ := (h.2.2 _).1 (List.getElem_mem hi)
  rw [e]
theorem has_short {S : Ms} {xs : List Int} (h : Has S xs) : ∀ m ∈ S, m.2.length ≤ 1000000 := fun m hm => by
  obtain ⟨x, -, rfl⟩ := (h.2.2 m).1 hm
  simp
end Go.Proofs.Ytmfhmegkgpaemaa
