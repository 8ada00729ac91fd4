/- Keep: the store's moments one by one; Drop. -/
import Derived.Test.YtmfhmegkgpaemaaKi
namespace Go.Proofs.Ytmfhmegkgpaemaa
open Go.RowKit

/-- Moments in memory and what they are, one by one. -/
def Prs (w : World) (base : Nat) : List Mo → List (Int × List Int) → Prop
  | [], [] => True
  | m :: l, s :: S => (m.1 = s.1 ∧ ownB w base m.2 s.2) ∧ Prs w base l S
  | _, _ => False
section
variable {w : World} {base : Nat}
theorem Prs.len : ∀ {l : List Mo} {S : List (Int × List Int)}, Prs w base l S → l.length = S.length
  | [], [], _ => rfl
  | m :: l, s :: S, h => by simp [Prs.len h.2]
theorem Prs.at_ : ∀ {l : List Mo} {S : List (Int × List Int)}, Prs w base l S → ∀ i, (hi : i < l.length) → (hi2 : i < S.length) → l[i].1 = S[i].1 ∧ ownB w base l[i].2 S[i].2
  | m :: l, s :: S, h, 0, _, _ => h.1
  | m :: l, s :: S, h, i + 1, hi, hi2 => Prs.at_ h.2 i (by simpa using hi) (by simpa using hi2)
theorem Prs.of : ∀ {l : List Mo} {S : List (Int × List Int)}, l.length = S.length → (∀ i, (hi : i < l.length) → (hi2 : i < S.length) → l[i].1 = S[i].1 ∧ ownB w base l[i].2 S[i].2) → Prs w base l S
  | [], [], _, _ => trivial
  | m :: l, s :: S, hl, h => ⟨h 0 (by simp) (by simp), Prs.of (by simpa using hl) fun i hi hi2 => h (i + 1) (by simpa using hi) (by simpa using hi2)⟩
theorem Prs.take : ∀ {l : List Mo} {S : List (Int × List Int)} (i : Nat), Prs w base l S → Prs w base (l.take i) (S.take i)
  | [], [], i, _ => by simp [Prs]
  | m :: l, s :: S, 0, _ => by simp [Prs]
  | m :: l, s :: S, i + 1, h => ⟨h.1, Prs.take i h.2⟩
theorem Prs.drop : ∀ {l : List Mo} {S : List (Int × List Int)} (i : Nat), Prs w base l S → Prs w base (l.drop i) (S.drop i)
  | [], [], i, _ => by simp [Prs]
  | m :: l, s :: S, 0, h => h
  | m :: l, s :: S, i + 1, h => Prs.drop i h.2
theorem Prs.append : ∀ {l l2 : List Mo} {S S2 : List (Int × List Int)}, Prs w base l S → Prs w base l2 S2 → Prs w base (l ++ l2) (S ++ S2)
  | [], _, [], _, _, h2 => h2
  | m :: l, _, s :: S, _, h, h2 => ⟨h.1, Prs.append h.2 h2⟩
theorem Prs.erase {l : List Mo} {S : List (Int × List Int)} (i : Nat) (h : Prs w base l S) : Prs w base (l.eraseIdx i) (S.eraseIdx i) := by
  rw [eraseIdx_take_drop, eraseIdx_take_drop]
  exact (h.take i).append (h.drop (i + 1))
theorem Prs.map {w' : World} : ∀ {l : List Mo} {S : List (Int × List Int)}, (∀ p b, ownB w base p b → ownB w' base p b) → Prs w base l S → Prs w' base l S
  | [], [], _, _ => trivial
  | m :: l, s :: S, hk, h => ⟨⟨h.1.1, hk _ _ h.1.2⟩, Prs.map hk h.2⟩
end
theorem StAt.prs {w : World} {base Bs : Nat} {most : Int} {v : Value} {l : List Mo} {S : List (Int × List Int)} (h : StAt w base Bs most v l S) : Prs w base l S :=
  Prs.of h.len fun i hi hi2 => ⟨h.ats i hi hi2, h.ps i hi hi2⟩
theorem own_blk {w : World} {base : Nat} {e : TypeId} {size n : Nat} {v : Value} {xs : List Value} (h : w.ownsRow base e size v n xs) : ∀ k, v.ownBlock = some k → base ≤ k ∧ ∃ cur, w.heap[k]? = some (.cells cur e (0, 0)) := by
  intro k hk
  rcases h.2 with ⟨rfl, _⟩ | ⟨g, cap, cur, rfl, h1, h2, _⟩
  · cases hk
  · simp [Value.ownBlock] at hk; subst hk; exact ⟨h1, cur, h2⟩
theorem own_same {w w' : World} {base : Nat} {e : TypeId} {size n : Nat} {v : Value} {xs : List Value} (h : w.ownsRow base e size v n xs) (hk : ∀ k, v.ownBlock = some k → w'.heap[k]? = w.heap[k]?) : w'.ownsRow base e size v n xs := by
  refine ⟨h.1, ?_⟩
  rcases h.2 with h1 | ⟨g, cap, cur, rfl, h1, h2, h3⟩
  · exact .inl h1
  · exact .inr ⟨g, cap, cur, rfl, h1, (hk g rfl).trans h2, h3⟩
theorem StAt.mk' {w : World} {base Bs : Nat} {most : Int} {v : Value} {l : List Mo} {S : List (Int × List Int)} (h1 : w.heap[Bs]? = some (.cells #[.int .i64 most, v] 51 (0, 0))) (h2 : base ≤ Bs) (h3 : ownO w base v l) (h4 : Prs w base l S) : StAt w base Bs most v l S :=
  ⟨h1, h2, h3, h4.len, fun i hi hi2 => (h4.at_ i hi hi2).1, fun i hi hi2 => (h4.at_ i hi hi2).2⟩
theorem StAt.lt {w : World} {base Bs : Nat} {most : Int} {v : Value} {l : List Mo} {S : List (Int × List Int)} (h : StAt w base Bs most v l S) : Bs < w.heap.size := (Array.getElem?_eq_some_iff.1 h.at_).1
/-- What leaves all that there was leaves the store. -/
theorem StAt.same {w w' : World} {base Bs : Nat} {most : Int} {v : Value} {l : List Mo} {S : List (Int × List Int)} (h : StAt w base Bs most v l S) (hb : ∀ k, k < w.heap.size → w'.heap[k]? = w.heap[k]?) : StAt w' base Bs most v l S := by
  have ho : ∀ {e : TypeId} {size n : Nat} {u : Value} {xs : List Value}, w.ownsRow base e size u n xs → w'.ownsRow base e size u n xs := fun h => own_same h fun k hk => by
    obtain ⟨_, cur, hc⟩ := own_blk h k hk
    exact hb k (Array.getElem?_eq_some_iff.1 hc).1
  exact StAt.mk' ((hb Bs h.lt).trans h.at_) h.lb (ho h.row) (h.prs.map fun p b => ho)
theorem StAt.later {w w' : World} {base Bs : Nat} {most : Int} {v : Value} {l : List Mo} {S : List (Int × List Int)} (h : StAt w base Bs most v l S) (hb : Below w.heap.size w w') : StAt w' base Bs most v l S := h.same hb.block

theorem cells_ne {c c' : Array Value} {t t' : TypeId} {f f' : Nat × Nat} (h : t ≠ t') : Obj.cells c t f ≠ Obj.cells c' t' f' := fun e => by cases e; exact h rfl
theorem blk_ne {w : World} {i j : Nat} {o o' : Obj} (h1 : w.heap[i]? = some o) (h2 : w.heap[j]? = some o') (h : o ≠ o') : i ≠ j := fun e => by subst e; rw [h1] at h2; exact h (Option.some.inj h2)

/-- The row has turned, and is laid back into the store. -/
theorem StAt.turn {w w' : World} {base Bs : Nat} {most : Int} {v v' : Value} {l l' : List Mo} {S S' : List (Int × List Int)} (h : StAt w base Bs most v l S) (hg : w.grownBy w' v.ownBlock) (hown : ownO w' base v' l') (hp : Prs w base l' S') :
    (w'.cell? ⟨Bs, 0, none⟩ = some (.int .i64 most) ∧ w'.cell? ⟨Bs, 1, none⟩ = some v ∧ w'.frozen? ⟨Bs, 1, none⟩ = false) ∧ StAt (w'.setCell ⟨Bs, 1, none⟩ v') base Bs most v' l' S' ∧ KeepS w (w'.setCell ⟨Bs, 1, none⟩ v') := by
  have hrow : ∀ k, v.ownBlock = some k → ∃ cur, w.heap[k]? = some (.cells cur 56 (0, 0)) := fun k hk => (own_blk h.row k hk).2
  have hkeep : ∀ {k : Nat} {o : Obj}, w.heap[k]? = some o → (∀ c f, o ≠ .cells c 56 f) → w'.heap[k]? = some o := fun {k o} hk ho => by
    rw [hg.block k (Array.getElem?_eq_some_iff.1 hk).1 (fun e => by
      obtain ⟨cur, hc⟩ := hrow k e.symm
      rw [hk] at hc; cases hc; exact ho _ _ rfl)]
    exact hk
  have hB := hkeep h.at_ (fun c f => cells_ne (by decide))
  have hset : ∀ {k : Nat} {c : Array Value} {t : TypeId} {f : Nat × Nat}, w'.heap[k]? = some (.cells c t f) → t ≠ 51 → (w'.setCell ⟨Bs, 1, none⟩ v').heap[k]? = w'.heap[k]? := fun {k c t f} hk ht => Below.heap_setCell _ _ _ _ (blk_ne hk hB (cells_ne ht))
  refine ⟨⟨by simp [World.cell?, hB], by simp [World.cell?, hB], by simp [World.frozen?, hB]⟩, StAt.mk' (by simp [World.setCell, Array.getElem?_modify, hB]) h.lb (own_same hown fun k hk => ?_) (hp.map fun p b hpb => own_same hpb fun k hk => ?_), fun k o hk ha hb => ?_⟩
  · obtain ⟨_, cur, hc⟩ := own_blk hown k hk
    exact hset hc (by decide)
  · obtain ⟨_, cur, hc⟩ := own_blk hpb k hk
    have h1 := hkeep hc (fun c f => cells_ne (by decide))
    rw [hset h1 (by decide), h1, hc]
  · have h1 := hkeep hk ha
    rw [← h1]
    exact Below.heap_setCell _ _ _ _ (fun e => by rw [e] at h1; rw [hB] at h1; exact hb _ _ (Option.some.inj h1).symm)
/-- Where the moments' bytes lie behind a call: where they lay, or in new memory. -/
def fromL (w : World) (l l' : List Mo) : Prop := ∀ m ∈ l', m ∈ l ∨ ∀ k, m.2.ownBlock = some k → w.heap.size ≤ k
theorem mem_set {l : List Mo} {i : Nat} {u m : Mo} (h : m ∈ l.set i u) : m ∈ l ∨ m = u := by
  rcases List.mem_or_eq_of_mem_set h with h | h
  · exact .inl h
  · exact .inr h
/-- What a call leaves that turns one store: every other block. -/
def KeepX (w w' : World) (Bs : Nat) (v : Value) : Prop := ∀ k, k < w.heap.size → k ≠ Bs → v.ownBlock ≠ some k → w'.heap[k]? = w.heap[k]?
theorem KeepX.of_below {w w' : World} {Bs : Nat} {v : Value} (h : Below w.heap.size w w') : KeepX w w' Bs v := fun k hk _ _ => h.block k hk
theorem KeepX.trans {w w' w'' : World} {Bs : Nat} {v v2 : Value} (h1 : KeepX w w' Bs v) (h2 : KeepX w' w'' Bs v2) (hs : w.heap.size ≤ w'.heap.size) (hv : v2.ownBlock = v.ownBlock) : KeepX w w'' Bs v := fun k hk ha hb => (h2 k (by omega) ha (by rw [hv]; exact hb)).trans (h1 k hk ha hb)
theorem KeepX.of_grown {w w' : World} {Bs : Nat} {v : Value} (h : w.grownBy w' v.ownBlock) : KeepX w w' Bs v := fun k hk _ hb => h.block k hk (fun e => hb e.symm)
theorem KeepX.setCell {w w' : World} {Bs i : Nat} {v u : Value} (h : KeepX w w' Bs v) : KeepX w (w'.setCell ⟨Bs, i, none⟩ u) Bs v := fun k hk ha hb => by
  rw [Below.heap_setCell _ _ _ _ ha]
  exact h k hk ha hb
end Go.Proofs.Ytmfhmegkgpaemaa
