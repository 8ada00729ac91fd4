/- The program's machine: a call's block becomes the machine's. -/
import Derived.Test.YteeapfgjjankeaaHb
namespace Go.Proofs.Yteeapfgjjankeaa.Mach
open Go.RowKit

theorem info_P' : (Try.prog.info? 74).map (fun i => (i.zero, i.size, i.bytes)) = some (some (.pointer none), 1, 8) := by kernel_rfl
theorem info_P : ∃ x, Try.prog.info? 74 = some x ∧ x.zero = some (.pointer none) ∧ x.size = 1 ∧ x.bytes = 8 := parts' info_P'
theorem slotsN_le (n : Int) : slotsN n ≤ 60000 := by
  unfold slotsN
  split
  · rename_i h
    simp [slotsOk] at h
    omega
  · omega
section
variable {w w' : World} {t : Nat → Nat} {base M : Nat} {E : Env} {V : MV} {cl : List (Fr × FV)} {s : St}
theorem MRep.newCall (h : MRep w t base M E V cl s) {args : List Int} {av : Value} (har : Row w t base 2 1 av args.length (intsV args) (9 + 4 * cl.length)) {fn dst : Int} {e : Ending} (hF : FrP w E fn args av dst e w') :
    ∃ F sv t', e = .returned (.pointer (some ⟨F, 0, none⟩)) ∧ Below w.heap.size w w' ∧ MRep w' t' base M E V cl s ∧ Fx w w' t t' ∧ PRep w' t' base cl.length (newFr E fn args dst, ⟨F, sv, av, .slice none 0 0⟩) := by
  obtain ⟨F, sv, he, hFw, hb, hf, hsv⟩ := hF
  have hsz := hb.size
  have hFl : F < w'.heap.size := (Array.getElem?_eq_some_iff.1 hf).1
  have hsb : ∀ k, sv.ownBlock = some k → w.heap.size ≤ k ∧ k < w'.heap.size ∧ k ≠ F := fun k hk => by
    obtain ⟨h1, cur, h2⟩ := oblk hsv k hk
    exact ⟨h1, (Array.getElem?_eq_some_iff.1 h2).1, fun e => by subst e; rw [hf] at h2; cases h2⟩
  obtain ⟨t', ht'⟩ : ∃ t', t' = updV (upd t F (7 + 4 * cl.length)) sv (8 + 4 * cl.length) := ⟨_, rfl⟩
  have hne : ∀ k, sv.ownBlock ≠ some k → k ≠ F → t' k = t k := fun k h1 h2 => by
    rw [ht']; unfold updV
    cases hv : sv.ownBlock with
    | none => exact upd_ne h2
    | some g => show upd (upd t F _) g _ k = t k; rw [upd_ne (fun e => h1 (by rw [hv, e])), upd_ne h2]
  have hFt : t' F = 7 + 4 * cl.length := by
    rw [ht']; unfold updV
    cases hv : sv.ownBlock with
    | none => exact upd_at _ _ _
    | some g => show upd (upd t F _) g _ F = _; rw [upd_ne (fun e => (hsb g hv).2.2 e.symm), upd_at]
  have h1 : ∀ k, k < w.heap.size → t' k = t k := fun k hk => hne k (fun e => by have := (hsb k e).1; omega) (by omega)
  have h2 : ∀ k, t' k ≠ 0 → k < w'.heap.size := fun k hk => by
    by_cases e1 : sv.ownBlock = some k
    · exact (hsb k e1).2.1
    by_cases e2 : k = F
    · rw [e2]; exact hFl
    · rw [hne k e1 e2] at hk; exact Nat.lt_of_lt_of_le (h.lt k hk) hsz
  obtain ⟨h3, h4⟩ := h.claimT hb h1 h2
  refine ⟨F, sv, t', he, hb, h3, h4, ⟨hf, hFt, by simp [newFr], ⟨?_, ?_⟩, Row.claimT har hb h1, Row.nil _ _ _ _ _ _⟩⟩
  · have e : (newFr E fn args dst).slots.length = slotsN (E.ent fn).2 := by simp [newFr]
    rw [e]
    exact obase hsv fun k hk => Nat.le_trans h.bs (hsb k hk).1
  · rw [ht']; exact updV_self _ _ _
/-- The new call's block stands behind the others. -/
theorem MRep.pushed {w8 : World} {o : Obj} {p : Fr × FV} {v' : Value} (h : MRep w t base M E V cl s) (hp : PRep w t base cl.length p)
    (hg : (w.alloc o).grownBy w8 V.ov.ownBlock) (hf : ∀ g, v'.ownBlock = some g → (w.alloc o).heap.size ≤ g ∨ V.ov.ownBlock = some g) (ho : w8.ownsRow base 74 1 v' (cl.length + 1) (ptrC cl ++ [.pointer (some ⟨p.2.blk, 0, none⟩)])) :
    MRep (w8.setCell ⟨M, 5, none⟩ v') (updV t v' 4) base M E { V with ov := v' } (cl ++ [p]) { s with opn := s.opn ++ [p.1] } ∧ Fx w (w8.setCell ⟨M, 5, none⟩ v') t (updV t v' 4) := by
  have T : Trn w w8 t (updV t v' 4) 4 base := Trn.app o hg h.ho.tag hf ho (by omega) h.bs
  exact h.push T ⟨by rw [ptrC_snoc]; exact ho, updV_self _ _ _⟩ (hp.trn T (by omega))
end
end Go.Proofs.Yteeapfgjjankeaa.Mach
