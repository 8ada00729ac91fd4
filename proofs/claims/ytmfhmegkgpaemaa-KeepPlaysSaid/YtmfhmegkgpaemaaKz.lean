/- Keep: both stores beside one another: what a pair of calls asks and leaves. -/
import Derived.Test.YtmfhmegkgpaemaaKy
namespace Go.Proofs.Ytmfhmegkgpaemaa
open Go.RowKit

def Good (most : Int) (S : Ms) : Prop := (1 ≤ most ∧ most ≤ 64) ∧ RisS S ∧ (S.length : Int) ≤ most ∧ ∀ m ∈ S, m.2.length ≤ 1000000 ∧ isB m.2
def PlK (W : World) (base : Nat) (sv : Value) (most : Int) (g : Nat) (S : Ms) : Prop := ∃ B v l, sv = .pointer (some ⟨B, 0, none⟩) ∧ StAt W base B most v l S ∧ ∀ m ∈ l, m.2.ownBlock ≠ some g
def PlR (W : World) (base : Nat) (xv : Value) (most : Int) (g : Nat) (S : Ms) : Prop := ∃ B v l, xv = .pointer (some ⟨B, 0, none⟩) ∧ RAt W base B most v l S ∧ ∀ m ∈ l, m.2.ownBlock ≠ some g
structure PP (w0 : World) (base : Nat) (sv xv : Value) (most : Int) (g bx : Nat) (cg cb : Array Value) (SA SB : Ms) (W : World) : Prop where
  k : PlK W base sv most g SA
  r : PlR W base xv most g SB
  hg : W.heap[g]? = some (.cells cg 5 (0, 0))
  hb : W.heap[bx]? = some (.cells cb 41 (0, 0))
  bel : Below base w0 W
structure Fin (w0 : World) (base : Nat) (sv xv : Value) (most : Int) (g bx : Nat) (cg cb : Array Value) (W : World) : Prop where
  st : (sv = .pointer none ∧ xv = .pointer none) ∨ ∃ S, Good most S ∧ PlK W base sv most g S ∧ PlR W base xv most g S
  hg : W.heap[g]? = some (.cells cg 5 (0, 0))
  hb : W.heap[bx]? = some (.cells cb 41 (0, 0))
  bel : Below base w0 W
theorem PP.fin {w0 W : World} {base : Nat} {sv xv : Value} {most : Int} {g bx : Nat} {cg cb : Array Value} {S : Ms} (h : PP w0 base sv xv most g bx cg cb S S W) (hg : Good most S) : Fin w0 base sv xv most g bx cg cb W :=
  ⟨.inr ⟨S, hg, h.k, h.r⟩, h.hg, h.hb, h.bel⟩
theorem PlK.same {W V : World} {base : Nat} {sv : Value} {most : Int} {g : Nat} {S : Ms} (h : PlK W base sv most g S) (e : ∀ k, k < W.heap.size → V.heap[k]? = W.heap[k]?) : PlK V base sv most g S := by
  obtain ⟨B, v, l, h1, h2, h3⟩ := h
  exact ⟨B, v, l, h1, h2.same e, h3⟩
theorem PlR.same {W V : World} {base : Nat} {sv : Value} {most : Int} {g : Nat} {S : Ms} (h : PlR W base sv most g S) (e : ∀ k, k < W.heap.size → V.heap[k]? = W.heap[k]?) : PlR V base sv most g S := by
  obtain ⟨B, v, l, h1, h2, h3⟩ := h
  exact ⟨B, v, l, h1, h2.same e, h3⟩
theorem Fin.later {w0 W V : World} {base : Nat} {sv xv : Value} {most : Int} {g bx : Nat} {cg cb : Array Value} (h : Fin w0 base sv xv most g bx cg cb W) (hV : Below W.heap.size W V) (hb : base ≤ w0.heap.size) : Fin w0 base sv xv most g bx cg cb V := by
  refine ⟨?_, ?_, ?_, h.bel.trans (hV.mono (Nat.le_trans hb h.bel.size))⟩
  · rcases h.st with h | ⟨S, h1, h2, h3⟩
    · exact .inl h
    · exact .inr ⟨S, h1, h2.same hV.block, h3.same hV.block⟩
  · rw [hV.block g (Array.getElem?_eq_some_iff.1 h.hg).1]; exact h.hg
  · rw [hV.block bx (Array.getElem?_eq_some_iff.1 h.hb).1]; exact h.hb
theorem below_of_same {W V : World} (B : Nat) (e1 : V.os = W.os) (e2 : V.tape = W.tape) (e3 : V.output = W.output) (e : V.heap = W.heap) : Below B W V := ⟨e1, e2, e3, by rw [e]; exact Nat.le_refl _, fun k _ => by rw [e]⟩
theorem PP.drew {w0 W : World} {base : Nat} {sv xv : Value} {most : Int} {g bx : Nat} {cg cb : Array Value} {SA SB : Ms} (h : PP w0 base sv xv most g bx cg cb SA SB W) : PP w0 base sv xv most g bx cg cb SA SB W.drew :=
  ⟨h.k.same fun _ _ => rfl, h.r.same fun _ _ => rfl, h.hg, h.hb, h.bel.drew⟩
theorem PlK.keepR {W V : World} {base : Nat} {sv : Value} {most : Int} {g : Nat} {S : Ms} (h : PlK W base sv most g S) (e : KeepR W V) : PlK V base sv most g S := by
  obtain ⟨B, v, l, h1, h2, h3⟩ := h
  exact ⟨B, v, l, h1, h2.keepR e, h3⟩
theorem PlR.keepS {W V : World} {base : Nat} {sv : Value} {most : Int} {g : Nat} {S : Ms} (h : PlR W base sv most g S) (e : KeepS W V) : PlR V base sv most g S := by
  obtain ⟨B, v, l, h1, h2, h3⟩ := h
  exact ⟨B, v, l, h1, h2.keepS e, h3⟩
theorem from_av {W : World} {g : Nat} {o : Obj} {l l' : List Mo} (hg : W.heap[g]? = some o) (h : ∀ m ∈ l, m.2.ownBlock ≠ some g) (hf : fromL W l l') : ∀ m ∈ l', m.2.ownBlock ≠ some g := fun m hm e => by
  rcases hf m hm with h1 | h1
  · exact h m h1 e
  · have := h1 g e
    have := (Array.getElem?_eq_some_iff.1 hg).1
    omega
theorem Good.put {most : Int} {S : Ms} (h : Good most S) {x c : Int} {b : List Int} (hb : b.length ≤ 1000000) (hB : isB b) : Good most (putS most S x b c) :=
  ⟨h.1, ris_put h.2.1 _ _ _ _, put_len h.2.2.1 h.1.1, fun m hm => by
    rcases put_from hm with rfl | ⟨h1, -⟩
    · exact ⟨hb, hB⟩
    · exact h.2.2.2 m h1⟩
theorem Good.erase {most : Int} {S : Ms} (h : Good most S) (k : Nat) : Good most (S.eraseIdx k) := by
  refine ⟨h.1, ?_, ?_, fun m hm => h.2.2.2 m ((List.eraseIdx_sublist _ _).subset hm)⟩
  · have := h.2.1
    rw [risS_iff] at this ⊢
    exact this.sublist (List.eraseIdx_sublist _ _)
  · have := List.length_eraseIdx_le S k
    have := h.2.2.1
    omega

section
variable {w0 W : World} {base : Nat} {sv xv : Value} {most : Int} {g bx : Nat} {cg cb : Array Value}
/-- A pair of calls that give one answer, in either order. -/
def Pair (w0 W : World) (base : Nat) (sv xv : Value) (most : Int) (g bx : Nat) (cg cb : Array Value) (f1 f2 : Nat) (a1 a2 : Array Value) : Prop :=
  ∃ (P : Bool → Bool → World → Prop) (c : Int),
    (∀ b V, P false b V → Calls Try.prog f1 a1 V fun e w' => e = .returned (.int .i64 c) ∧ P true b w') ∧
    (∀ a V, P a false V → Calls Try.prog f2 a2 V fun e w' => e = .returned (.int .i64 c) ∧ P a true w') ∧
    P false false W.drew ∧ (∀ a b V, P a b V → V.heap[bx]? = some (.cells cb 41 (0, 0))) ∧ ∀ V, P true true V → Fin w0 base sv xv most g bx cg cb V

theorem pair_still (hF : Fin w0 base sv xv most g bx cg cb W) {f1 f2 : Nat} {a1 a2 : Array Value} (c : Int) (hbase : base ≤ w0.heap.size)
    (h1 : ∀ V, Fin w0 base sv xv most g bx cg cb V → Calls Try.prog f1 a1 V fun e w' => e = .returned (.int .i64 c) ∧ Below V.heap.size V w')
    (h2 : ∀ V, Fin w0 base sv xv most g bx cg cb V → Calls Try.prog f2 a2 V fun e w' => e = .returned (.int .i64 c) ∧ Below V.heap.size V w') : Pair w0 W base sv xv most g bx cg cb f1 f2 a1 a2 := by
  refine ⟨fun _ _ V => Fin w0 base sv xv most g bx cg cb V, c, fun b V hV => ?_, fun a V hV => ?_, hF.later (Below.refl _ _).drew hbase, fun _ _ V hV => hV.hb, fun V hV => hV⟩
  · refine (h1 V hV).mono ?_
    rintro e w' ⟨rfl, hb⟩
    exact ⟨rfl, hV.later hb hbase⟩
  · refine (h2 V hV).mono ?_
    rintro e w' ⟨rfl, hb⟩
    exact ⟨rfl, hV.later hb hbase⟩

theorem two_put (hF : Fin w0 base sv xv most g bx cg cb W) (x choice : Int) (pv p : Value) (pb : List Int) (hbase : base ≤ w0.heap.size) (hpv : ∀ V, Below base w0 V → RdB V pv pb) (hpp : ∀ V : World, V.heap[g]? = some (.cells cg 5 (0, 0)) → RdB V p pb) (hpl : pb.length ≤ 1000000) (hB : isB pb) (hch : -9223372036854775808 ≤ choice ∧ choice ≤ 9223372036854775807) :
    Pair w0 W base sv xv most g bx cg cb 8 18 #[sv, .int .i64 x, p, .int .i64 choice] #[xv, .int .i64 x, pv, .int .i64 choice] := by
  have hs1 := Rd.shape (hpp W hF.hg)
  have hs2 := Rd.shape (hpv W hF.bel)
  have hs1' : ∃ a n c, p = .slice a n c := by obtain ⟨a, c, h⟩ := hs1; exact ⟨a, _, c, h⟩
  have hs2' : ∃ a n c, pv = .slice a n c := by obtain ⟨a, c, h⟩ := hs2; exact ⟨a, _, c, h⟩
  rcases hF.st with ⟨rfl, rfl⟩ | ⟨S, hG, hk, hr⟩
  · refine pair_still hF 14 hbase (fun V hV => ?_) (fun V hV => ?_)
    · refine (put_nil x p choice V hs1').mono ?_
      rintro e w' ⟨rfl, rfl⟩
      exact ⟨rfl, Below.refl _ _⟩
    · refine (refPut_nil x pv choice V hs2').mono ?_
      rintro e w' ⟨rfl, rfl⟩
      exact ⟨rfl, Below.refl _ _⟩
  · by_cases hx : x < 0
    · obtain ⟨B, v, l, rfl, -⟩ := hk
      obtain ⟨R, v, l, rfl, -⟩ := hr
      refine pair_still hF 1 hbase (fun V hV => ?_) (fun V hV => ?_)
      · refine (put_neg x p pb choice V B hx hs1').mono ?_
        rintro e w' ⟨rfl, rfl⟩
        exact ⟨rfl, Below.refl _ _⟩
      · refine (refPut_neg x pv choice V R hx hs2').mono ?_
        rintro e w' ⟨rfl, rfl⟩
        exact ⟨rfl, Below.refl _ _⟩
    · have hSl : S.length ≤ 1000 := by have := hG.2.2.1; have := hG.1.2; omega
      refine ⟨fun a b V => PP w0 base sv xv most g bx cg cb (if a then putS most S x pb choice else S) (if b then putS most S x pb choice else S) V, 0, fun b V hV => ?_, fun a V hV => ?_, (PP.mk hk hr hF.hg hF.hb hF.bel).drew, fun _ _ V hV => hV.hb, fun V hV => hV.fin (hG.put hpl hB)⟩
      · obtain ⟨B, v, l, rfl, h2, h3⟩ := hV.k
        have h2 : StAt V base B most v l S := h2
        have hbV : base ≤ V.heap.size := Nat.le_trans hbase hV.bel.size
        have hgk : ∀ {V' : World}, KeepS V V' → V'.heap[g]? = some (.cells cg 5 (0, 0)) := fun hk => hk g _ hV.hg (fun _ _ => cells_ne (by decide)) (fun _ _ => cells_ne (by decide))
        refine (put_any x p pb choice V base B most v l S h2 hG.2.1 (by have := h2.len; omega) hG.1.1 hpl (by omega) hbV hch (fun V' hk => hpp V' (hgk hk))).mono ?_
        rintro e w' ⟨rfl, v', l', k1, k2, k3, -, -, k6⟩
        exact ⟨rfl, ⟨B, v', l', rfl, k1, from_av hV.hg h3 k6⟩, hV.r.keepS k3, hgk k3, k3 bx _ hV.hb (fun _ _ => cells_ne (by decide)) (fun _ _ => cells_ne (by decide)), hV.bel.trans k2⟩
      · obtain ⟨B, v, l, rfl, h2, h3⟩ := hV.r
        have h2 : RAt V base B most v l S := h2
        have hbV : base ≤ V.heap.size := Nat.le_trans hbase hV.bel.size
        refine (refPut_any x pv pb choice V base B most v l S h2 hG.2.1 hSl hG.1.1 (hpv V hV.bel) hpl (by omega) hbV hch).mono ?_
        rintro e w' ⟨rfl, ⟨v', l', k1, k6⟩, k2, k3⟩
        exact ⟨rfl, hV.k.keepR k3, ⟨B, v', l', rfl, k1, from_av hV.hg h3 k6⟩, k3 g _ hV.hg (fun _ _ => cells_ne (by decide)) (fun _ _ => cells_ne (by decide)), k3 bx _ hV.hb (fun _ _ => cells_ne (by decide)) (fun _ _ => cells_ne (by decide)), hV.bel.trans k2⟩

theorem two_drop (hF : Fin w0 base sv xv most g bx cg cb W) (x : Int) (hbase : base ≤ w0.heap.size) :
    Pair w0 W base sv xv most g bx cg cb 19 20 #[sv, .int .i64 x] #[xv, .int .i64 x] := by
  rcases hF.st with ⟨rfl, rfl⟩ | ⟨S, hG, hk, hr⟩
  · refine pair_still hF 14 hbase (fun V hV => ?_) (fun V hV => ?_)
    · refine (drop_nil x V).mono ?_
      rintro e w' ⟨rfl, rfl⟩
      exact ⟨rfl, Below.refl _ _⟩
    · refine (refDrop_nil x V).mono ?_
      rintro e w' ⟨rfl, rfl⟩
      exact ⟨rfl, Below.refl _ _⟩
  · have hSl : S.length ≤ 1000 := by have := hG.2.2.1; have := hG.1.2; omega
    by_cases hany : ∃ i, ∃ hi : i < S.length, S[i].1 = x
    · obtain ⟨i, hi, hix⟩ := hany
      have huni : ∀ j, (hj : j < S.length) → S[j].1 = x → j = i := fun j hj hjx => by
        rcases Nat.lt_trichotomy i j with h | h | h
        · have := hG.2.1 i j hi hj h; omega
        · exact h.symm
        · have := hG.2.1 j i hj hi h; omega
      refine ⟨fun a b V => PP w0 base sv xv most g bx cg cb (if a then S.eraseIdx i else S) (if b then S.eraseIdx i else S) V, 0, fun b V hV => ?_, fun a V hV => ?_, (PP.mk hk hr hF.hg hF.hb hF.bel).drew, fun _ _ V hV => hV.hb, fun V hV => hV.fin (hG.erase i)⟩
      · obtain ⟨B, v, l, rfl, h2, h3⟩ := hV.k
        have h2 : StAt V base B most v l S := h2
        have hbV : base ≤ V.heap.size := Nat.le_trans hbase hV.bel.size
        refine (drop_any x V base B most v l S h2 hG.2.1 (by have := h2.len; omega) hbV).mono ?_
        rintro e w' (⟨h, -⟩ | ⟨j, v', l', ⟨hj, hjx⟩, rfl, k1, k2, k3, k6⟩)
        · exact absurd hix (h i hi)
        · rw [huni j hj hjx] at k1
          exact ⟨rfl, ⟨B, v', l', rfl, k1, from_av hV.hg h3 k6⟩, hV.r.keepS k3, k3 g _ hV.hg (fun _ _ => cells_ne (by decide)) (fun _ _ => cells_ne (by decide)), k3 bx _ hV.hb (fun _ _ => cells_ne (by decide)) (fun _ _ => cells_ne (by decide)), hV.bel.trans k2⟩
      · obtain ⟨B, v, l, rfl, h2, h3⟩ := hV.r
        have h2 : RAt V base B most v l S := h2
        have hbV : base ≤ V.heap.size := Nat.le_trans hbase hV.bel.size
        refine (refDrop_any x V base B most v l S h2 hSl hbV).mono ?_
        rintro e w' (⟨h, -⟩ | ⟨j, ⟨hj, hjx⟩, rfl, ⟨v', l', k1, k6⟩, k2, k3⟩)
        · exact absurd hix (h i hi)
        · rw [huni j hj hjx] at k1
          exact ⟨rfl, hV.k.keepR k3, ⟨B, v', l', rfl, k1, fun m hm => h3 m (k6 m hm)⟩, k3 g _ hV.hg (fun _ _ => cells_ne (by decide)) (fun _ _ => cells_ne (by decide)), k3 bx _ hV.hb (fun _ _ => cells_ne (by decide)) (fun _ _ => cells_ne (by decide)), hV.bel.trans k2⟩
    · refine ⟨fun a b V => PP w0 base sv xv most g bx cg cb S S V, 14, fun b V hV => ?_, fun a V hV => ?_, (PP.mk hk hr hF.hg hF.hb hF.bel).drew, fun _ _ V hV => hV.hb, fun V hV => hV.fin hG⟩
      · obtain ⟨B, v, l, rfl, h2, h3⟩ := hV.k
        have h2 : StAt V base B most v l S := h2
        have hbV : base ≤ V.heap.size := Nat.le_trans hbase hV.bel.size
        refine (drop_any x V base B most v l S h2 hG.2.1 (by have := h2.len; omega) hbV).mono ?_
        rintro e w' (⟨h, rfl, hb⟩ | ⟨j, v', l', hj, -⟩)
        · exact ⟨rfl, ⟨B, v, l, rfl, h2.later hb, h3⟩, hV.r.same hb.block, (hb.block g (Array.getElem?_eq_some_iff.1 hV.hg).1).trans hV.hg, (hb.block bx (Array.getElem?_eq_some_iff.1 hV.hb).1).trans hV.hb, hV.bel.trans (hb.mono hbV)⟩
        · exact absurd ⟨j, hj⟩ hany
      · obtain ⟨B, v, l, rfl, h2, h3⟩ := hV.r
        have h2 : RAt V base B most v l S := h2
        have hbV : base ≤ V.heap.size := Nat.le_trans hbase hV.bel.size
        refine (refDrop_any x V base B most v l S h2 hSl hbV).mono ?_
        rintro e w' (⟨h, rfl, hb⟩ | ⟨j, hj, -⟩)
        · exact ⟨rfl, hV.k.same hb.block, ⟨B, v, l, rfl, h2.later hb, h3⟩, (hb.block g (Array.getElem?_eq_some_iff.1 hV.hg).1).trans hV.hg, (hb.block bx (Array.getElem?_eq_some_iff.1 hV.hb).1).trans hV.hb, hV.bel.trans (hb.mono hbV)⟩
        · exact absurd ⟨j, hj⟩ hany

/-- What both stores find. -/
theorem two_best (hF : Fin w0 base sv xv most g bx cg cb W) (x : Int) :
    ∃ (y : Int) (qb : List Int) (ok : Bool), isB qb ∧ qb.length ≤ 1000000 ∧
      (∀ V, Below W.heap.size W V → Calls Try.prog 9 #[sv, .int .i64 x] V fun e w' => ∃ q, e = .returned (.tuple #[.int .i64 y, q, .bool ok]) ∧ ownB w' V.heap.size q qb ∧ Below V.heap.size V w') ∧
      (∀ V, Below W.heap.size W V → Calls Try.prog 21 #[xv, .int .i64 x] V fun e w' => ∃ q, e = .returned (.tuple #[.agg #[.int .i64 y, q], .bool ok]) ∧ RdB w' q qb ∧ Below V.heap.size V w') := by
  rcases hF.st with ⟨rfl, rfl⟩ | ⟨S, hG, hk, hr⟩
  · refine ⟨0, [], false, (fun x hx => nomatch hx), by simp, fun V hV => ?_, fun V hV => ?_⟩
    · refine (best_nil x V).mono ?_
      rintro e w' ⟨rfl, rfl⟩
      exact ⟨_, rfl, ⟨rfl, .inl ⟨rfl, rfl⟩⟩, Below.refl _ _⟩
    · refine (refBest_nil x V).mono ?_
      rintro e w' ⟨rfl, hb⟩
      exact ⟨_, rfl, Rd.nil _ _, hb⟩
  · have hSl : S.length ≤ 1000 := by have := hG.2.2.1; have := hG.1.2; omega
    obtain ⟨B, v, l, rfl, h2, h3⟩ := hk
    obtain ⟨R, v2, l2, rfl, r2, r3⟩ := hr
    by_cases hany : ∃ i, ∃ hi : i < S.length, S[i].1 ≤ x ∧ ∀ k, (hk : k < S.length) → i < k → x < S[k].1
    · obtain ⟨i, hi, h4, h5⟩ := hany
      have huni : ∀ j, (hj : j < S.length) → S[j].1 ≤ x → (∀ k, (hk : k < S.length) → j < k → x < S[k].1) → j = i := fun j hj hjx hjy => by
        rcases Nat.lt_trichotomy i j with h | h | h
        · have := h5 j hj h; omega
        · exact h.symm
        · have := hjy i hi h; omega
      refine ⟨S[i].1, S[i].2, true, (hG.2.2.2 _ (List.getElem_mem hi)).2, (hG.2.2.2 _ (List.getElem_mem hi)).1, fun V hV => ?_, fun V hV => ?_⟩
      · refine (best_any x V base B most v l S (h2.later hV) hG.2.1 (by have := h2.len; omega) (fun m hm => (hG.2.2.2 m hm).1)).mono ?_
        rintro e w' (⟨h, -⟩ | ⟨j, hj, k1, k2, q, rfl, k3, k4⟩)
        · have := h i hi; omega
        · obtain rfl := huni j hj k1 k2
          exact ⟨q, rfl, k3, k4⟩
      · refine (refBest_any x V base R most S ⟨v2, l2, r2.later hV⟩ hSl).mono ?_
        rintro e w' (⟨h, -⟩ | ⟨j, hj, k1, k2, q, rfl, k3, k4⟩)
        · have := h i hi; omega
        · obtain rfl := huni j hj k1 k2
          exact ⟨q, rfl, Rd.later (Rd.of_own k3) k4, k4⟩
    · refine ⟨0, [], false, (fun x hx => nomatch hx), by simp, fun V hV => ?_, fun V hV => ?_⟩
      · refine (best_any x V base B most v l S (h2.later hV) hG.2.1 (by have := h2.len; omega) (fun m hm => (hG.2.2.2 m hm).1)).mono ?_
        rintro e w' (⟨h, rfl, hb⟩ | ⟨j, hj, k1, k2, q, rfl, k3, k4⟩)
        · exact ⟨_, rfl, ⟨rfl, .inl ⟨rfl, rfl⟩⟩, hb⟩
        · exact absurd ⟨j, hj, k1, k2⟩ hany
      · refine (refBest_any x V base R most S ⟨v2, l2, r2.later hV⟩ hSl).mono ?_
        rintro e w' (⟨h, rfl, hb⟩ | ⟨j, hj, k1, k2, q, rfl, k3, k4⟩)
        · exact ⟨_, rfl, Rd.nil _ _, hb⟩
        · exact absurd ⟨j, hj, k1, k2⟩ hany
end
end Go.Proofs.Ytmfhmegkgpaemaa
