/- Keep: the document's store in memory; New. -/
import Derived.Test.YtmfhmegkgpaemaaKs
namespace Go.Proofs.Ytmfhmegkgpaemaa
open Go.RowKit

theorem infoR : (Try.prog.info? 47).map (fun i => (i.zero, i.size, i.bytes)) = some (some (.agg #[.int .i64 0, .slice none 0 0]), 2, 32) := by kernel_rfl
abbrev ownR (w : World) (base : Nat) (v : Value) (l : List Mo) : Prop := w.ownsRow base 47 2 v l.length (cellsO l)

/-- The store in memory: how many at most, its moments' row. -/
structure RAt (w : World) (base Bs : Nat) (most : Int) (v : Value) (l : List Mo) (S : List (Int × List Int)) : Prop where
  at_ : w.heap[Bs]? = some (.cells #[.int .i64 most, v] 45 (0, 0))
  lb : base ≤ Bs
  row : ownR w base v l
  len : l.length = S.length
  ats : ∀ i, (hi : i < l.length) → (hi2 : i < S.length) → l[i].1 = S[i].1
  ps : ∀ i, (hi : i < l.length) → (hi2 : i < S.length) → ownB w base l[i].2 S[i].2
theorem RAt.sl {w : World} {base Bs : Nat} {most : Int} {v : Value} {l : List Mo} {S : List (Int × List Int)} (h : RAt w base Bs most v l S) : ∀ m ∈ l, SlV m.2 := fun m hm => by
  obtain ⟨i, hi, rfl⟩ := List.getElem_of_mem hm
  exact (h.ps i hi (by have := h.len; omega)).slV

def KeepR (w w' : World) : Prop := ∀ (k : Nat) (o : Obj), w.heap[k]? = some o → (∀ c f, o ≠ .cells c 47 f) → (∀ c f, o ≠ .cells c 45 f) → w'.heap[k]? = some o
theorem KeepR.of_below {w w' : World} (h : Below w.heap.size w w') : KeepR w w' := fun k o hk _ _ => by rw [h.block k (Array.getElem?_eq_some_iff.1 hk).1]; exact hk
theorem KeepR.trans {w w' w'' : World} (h1 : KeepR w w') (h2 : KeepR w' w'') : KeepR w w'' := fun k o hk ha hb => h2 k o (h1 k o hk ha hb) ha hb

theorem RAt.prs {w : World} {base Bs : Nat} {most : Int} {v : Value} {l : List Mo} {S : List (Int × List Int)} (h : RAt w base Bs most v l S) : Prs w base l S :=
  Prs.of h.len fun i hi hi2 => ⟨h.ats i hi hi2, h.ps i hi hi2⟩

theorem RAt.mk' {w : World} {base Bs : Nat} {most : Int} {v : Value} {l : List Mo} {S : List (Int × List Int)} (h1 : w.heap[Bs]? = some (.cells #[.int .i64 most, v] 45 (0, 0))) (h2 : base ≤ Bs) (h3 : ownR w base v l) (h4 : Prs w base l S) : RAt w base Bs most v l S :=
  ⟨h1, h2, h3, h4.len, fun i hi hi2 => (h4.at_ i hi hi2).1, fun i hi hi2 => (h4.at_ i hi hi2).2⟩
theorem RAt.lt {w : World} {base Bs : Nat} {most : Int} {v : Value} {l : List Mo} {S : List (Int × List Int)} (h : RAt w base Bs most v l S) : Bs < w.heap.size := (Array.getElem?_eq_some_iff.1 h.at_).1
/-- What leaves all that there was leaves the store. -/
theorem RAt.same {w w' : World} {base Bs : Nat} {most : Int} {v : Value} {l : List Mo} {S : List (Int × List Int)} (h : RAt w base Bs most v l S) (hb : ∀ k, k < w.heap.size → w'.heap[k]? = w.heap[k]?) : RAt w' base Bs most v l S := by
  have ho : ∀ {e : TypeId} {size n : Nat} {u : Value} {xs : List Value}, w.ownsRow base e size u n xs → w'.ownsRow base e size u n xs := fun h => own_same h fun k hk => by
    obtain ⟨_, cur, hc⟩ := own_blk h k hk
    exact hb k (Array.getElem?_eq_some_iff.1 hc).1
  exact RAt.mk' ((hb Bs h.lt).trans h.at_) h.lb (ho h.row) (h.prs.map fun p b => ho)
theorem RAt.later {w w' : World} {base Bs : Nat} {most : Int} {v : Value} {l : List Mo} {S : List (Int × List Int)} (h : RAt w base Bs most v l S) (hb : Below w.heap.size w w') : RAt w' base Bs most v l S := h.same hb.block


/-- The row has turned, and is laid back into the store. -/
theorem RAt.turn {w w' : World} {base Bs : Nat} {most : Int} {v v' : Value} {l l' : List Mo} {S S' : List (Int × List Int)} (h : RAt w base Bs most v l S) (hg : w.grownBy w' v.ownBlock) (hown : ownR w' base v' l') (hp : Prs w base l' S') :
    (w'.cell? ⟨Bs, 0, none⟩ = some (.int .i64 most) ∧ w'.cell? ⟨Bs, 1, none⟩ = some v ∧ w'.frozen? ⟨Bs, 1, none⟩ = false) ∧ RAt (w'.setCell ⟨Bs, 1, none⟩ v') base Bs most v' l' S' ∧ KeepR w (w'.setCell ⟨Bs, 1, none⟩ v') := by
  have hrow : ∀ k, v.ownBlock = some k → ∃ cur, w.heap[k]? = some (.cells cur 47 (0, 0)) := fun k hk => (own_blk h.row k hk).2
  have hkeep : ∀ {k : Nat} {o : Obj}, w.heap[k]? = some o → (∀ c f, o ≠ .cells c 47 f) → w'.heap[k]? = some o := fun {k o} hk ho => by
    rw [hg.block k (Array.getElem?_eq_some_iff.1 hk).1 (fun e => by
      obtain ⟨cur, hc⟩ := hrow k e.symm
      rw [hk] at hc; cases hc; exact ho _ _ rfl)]
    exact hk
  have hB := hkeep h.at_ (fun c f => cells_ne (by decide))
  have hset : ∀ {k : Nat} {c : Array Value} {t : TypeId} {f : Nat × Nat}, w'.heap[k]? = some (.cells c t f) → t ≠ 45 → (w'.setCell ⟨Bs, 1, none⟩ v').heap[k]? = w'.heap[k]? := fun {k c t f} hk ht => Below.heap_setCell _ _ _ _ (blk_ne hk hB (cells_ne ht))
  refine ⟨⟨by simp [World.cell?, hB], by simp [World.cell?, hB], by simp [World.frozen?, hB]⟩, RAt.mk' (by simp [World.setCell, Array.getElem?_modify, hB]) h.lb (own_same hown fun k hk => ?_) (hp.map fun p b hpb => own_same hpb fun k hk => ?_), fun k o hk ha hb => ?_⟩
  · obtain ⟨_, cur, hc⟩ := own_blk hown k hk
    exact hset hc (by decide)
  · obtain ⟨_, cur, hc⟩ := own_blk hpb k hk
    have h1 := hkeep hc (fun c f => cells_ne (by decide))
    rw [hset h1 (by decide), h1, hc]
  · have h1 := hkeep hk ha
    rw [← h1]
    exact Below.heap_setCell _ _ _ _ (fun e => by rw [e] at h1; rw [hB] at h1; exact hb _ _ (Option.some.inj h1).symm)

theorem RAt.setP {w : World} {base Bs g c i : Nat} {most : Int} {l : List Mo} {S : Ms} {q : Value} {pb : List Int} {x : Int} (h : RAt w base Bs most (.slice (some ⟨g, 0, none⟩) l.length c) l S) (hi : i < l.length) (hx : l[i].1 = x) (hq : ownB w base q pb) :
    RAt (w.setCell ⟨g, i * 2 + 1, none⟩ q) base Bs most (.slice (some ⟨g, 0, none⟩) l.length c) (l.set i (l[i].1, q)) (S.set i (x, pb)) ∧ KeepR w (w.setCell ⟨g, i * 2 + 1, none⟩ q) ∧ base ≤ g := by
  obtain ⟨hbg, cur, hg⟩ := own_blk h.row g rfl
  have hne : ∀ {k : Nat} {c' : Array Value} {t : TypeId} {f : Nat × Nat}, w.heap[k]? = some (.cells c' t f) → t ≠ 47 → (w.setCell ⟨g, i * 2 + 1, none⟩ q).heap[k]? = w.heap[k]? := fun {k c' t f} hk ht => Below.heap_setCell _ _ _ _ (blk_ne hk hg (cells_ne ht))
  have hp2 : ∀ p b, ownB w base p b → ownB (w.setCell ⟨g, i * 2 + 1, none⟩ q) base p b := fun p b hpb => own_same hpb fun k hk => by
    obtain ⟨_, cur2, hc⟩ := own_blk hpb k hk
    exact hne hc (by decide)
  refine ⟨RAt.mk' ?_ h.lb ?_ ((h.prs.map hp2).set i (by rw [← hx]) (hp2 _ _ hq)), fun k o hk ha hb => ?_, hbg⟩
  · rw [hne h.at_ (by decide)]; exact h.at_
  · have := own_set h.row (i * 2 + 1) q
    rw [cellsO_set l i hi] at this
    show World.ownsRow _ _ _ _ _ _ _
    rw [List.length_set]
    exact this
  · rw [← hk]
    refine Below.heap_setCell _ _ _ _ (fun e => ?_)
    subst e
    rw [hg] at hk
    exact ha _ _ (Option.some.inj hk).symm


theorem grown_of_below {w w' : World} {row : Option Nat} (h : Below w.heap.size w w') : w.grownBy w' row := ⟨h.os, h.tape, h.output, h.size, fun k hk _ => h.block k hk⟩
theorem StAt.keepR {w w' : World} {base Bs : Nat} {most : Int} {v : Value} {l : List Mo} {S : Ms} (h : StAt w base Bs most v l S) (hk : KeepR w w') : StAt w' base Bs most v l S := by
  have hb : ∀ {k : Nat} {c : Array Value} {t : TypeId} {f : Nat × Nat}, w.heap[k]? = some (.cells c t f) → t ≠ 47 → t ≠ 45 → w'.heap[k]? = w.heap[k]? := fun {k c t f} h1 h2 h3 => by
    rw [h1]; exact hk _ _ h1 (fun _ _ => cells_ne h2) (fun _ _ => cells_ne h3)
  refine StAt.mk' ((hb h.at_ (by decide) (by decide)).trans h.at_) h.lb (own_same h.row fun k hkk => ?_) (h.prs.map fun p b hp => own_same hp fun k hkk => ?_)
  · obtain ⟨_, cur, hc⟩ := own_blk h.row k hkk
    exact hb hc (by decide) (by decide)
  · obtain ⟨_, cur, hc⟩ := own_blk hp k hkk
    exact hb hc (by decide) (by decide)
theorem RAt.keepS {w w' : World} {base Bs : Nat} {most : Int} {v : Value} {l : List Mo} {S : Ms} (h : RAt w base Bs most v l S) (hk : KeepS w w') : RAt w' base Bs most v l S := by
  have hb : ∀ {k : Nat} {c : Array Value} {t : TypeId} {f : Nat × Nat}, w.heap[k]? = some (.cells c t f) → t ≠ 56 → t ≠ 51 → w'.heap[k]? = w.heap[k]? := fun {k c t f} h1 h2 h3 => by
    rw [h1]; exact hk _ _ h1 (fun _ _ => cells_ne h2) (fun _ _ => cells_ne h3)
  refine RAt.mk' ((hb h.at_ (by decide) (by decide)).trans h.at_) h.lb (own_same h.row fun k hkk => ?_) (h.prs.map fun p b hp => own_same hp fun k hkk => ?_)
  · obtain ⟨_, cur, hc⟩ := own_blk h.row k hkk
    exact hb hc (by decide) (by decide)
  · obtain ⟨_, cur, hc⟩ := own_blk hp k hkk
    exact hb hc (by decide) (by decide)
def RSt (w : World) (base Bs : Nat) (most : Int) (S : Ms) : Prop := ∃ v l, RAt w base Bs most v l S
theorem RSt.later {w w' : World} {base Bs : Nat} {most : Int} {S : Ms} (h : RSt w base Bs most S) (hb : Below w.heap.size w w') : RSt w' base Bs most S := by
  obtain ⟨v, l, h⟩ := h
  exact ⟨v, l, h.later hb⟩
theorem KSt.keepR {w w' : World} {base Bs : Nat} {most : Int} {S : Ms} (h : KSt w base Bs most S) (hb : KeepR w w') : KSt w' base Bs most S := by
  obtain ⟨v, l, h⟩ := h
  exact ⟨v, l, h.keepR hb⟩
theorem RSt.keepS {w w' : World} {base Bs : Nat} {most : Int} {S : Ms} (h : RSt w base Bs most S) (hb : KeepS w w') : RSt w' base Bs most S := by
  obtain ⟨v, l, h⟩ := h
  exact ⟨v, l, h.keepS hb⟩

set_option maxHeartbeats 2000000 in
theorem refNew_any (most : Int) (w : World) :
    Calls Try.prog 12 #[.int .i64 most] w fun e w' => ((1 ≤ most ∧ most ≤ 64) ∧ e = .returned (.tuple #[.pointer (some ⟨w.heap.size, 0, none⟩), .int .i64 0]) ∧ RAt w' w.heap.size w.heap.size most (.slice none 0 0) [] [] ∧ Below w.heap.size w w') ∨ (¬ (1 ≤ most ∧ most ≤ 64) ∧ e = .returned (.tuple #[.pointer none, .int .i64 1]) ∧ w' = w) := by
  by_cases h1 : most < 1
  · go_enter Try.func12, Try.ntmps12
    go_wp2_with fail
    go_ret2
    exact .inr ⟨by omega, rfl, rfl⟩
  · by_cases h2 : 64 < most
    · have b1 : decide (most < 1) = false := decide_eq_false h1
      have H := Lib.hid (And.intro h1 h2)
      have b2 : decide ((64 : Int) < most) = true := decide_eq_true h2
      clear h1 h2
      go_enter Try.func12, Try.ntmps12
      go_wp2_with fail
      go_ret2
      exact .inr ⟨by have := H.out; omega, rfl, rfl⟩
    · have b1 : decide (most < 1) = false := decide_eq_false h1
      have b2 : decide ((64 : Int) < most) = false := decide_eq_false h2
      have H := Lib.hid (And.intro h1 h2)
      clear h1 h2
      go_enter Try.func12, Try.ntmps12
      go_wp2_with fail
      go_ret2
      exact .inl ⟨by have := H.out; omega, rfl, ⟨heap_alloc_new _ _, Nat.le_refl _, ⟨rfl, .inl ⟨rfl, rfl⟩⟩, rfl, fun i hi => by simp at hi, fun i hi => by simp at hi⟩, (Below.refl _ _).alloc (Nat.le_refl _) _⟩
end Go.Proofs.Ytmfhmegkgpaemaa
