/- The machine's open calls, as it tells them. -/
import Derived.Test.YteeapfgjjankeaaQJo
import Derived.Test.YteeapfgjjankeaaQIp
namespace Go.Proofs.Yteeapfgjjankeaa.Mach
open Go.RowKit

/-- The calls, the innermost first. -/
def callsF (s : St) : List CallF := (s.opn.mapIdx fun i f => callOf s i f).reverse
theorem calls_eq {s : St} {cl : List (Fr × FV)} (h : s.opn = cl.map Prod.fst) : ((downs cl.length cl.length).map fun x => callOf s x.1 cl[x.1].1) = callsF s := by
  have hl : s.opn.length = cl.length := by rw [h]; simp
  have hg : ∀ i, (hi : i < cl.length) → s.opn[i]'(by omega) = cl[i].1 := fun i hi => by simp [h]
  unfold callsF
  apply List.ext_getElem
  · simp [downs_len, hl]
  · intro i h1 h2
    simp only [List.length_map, downs_len (Nat.le_refl _)] at h1
    simp only [List.getElem_map, List.getElem_reverse, List.getElem_mapIdx, List.length_mapIdx, downs, List.getElem_take]
    have key : ∀ (a : Fin cl.length) (k : Nat) (hk : k < s.opn.length), a.1 = k → callOf s a.1 cl[a.1].1 = callOf s k s.opn[k] := by
      rintro a k hk rfl
      rw [hg a.1 a.2]
    exact key _ _ _ (by simp [hl])
theorem MAt.calls {w : World} {t : Nat → Nat} {M : Nat} {E : Env} {L : Nat} {s : St} (h : MAt w t M E L s) :
    Calls Try.prog 18 #[.pointer (some ⟨M, 0, none⟩)] w fun e w' => ∃ v xs, e = .returned v ∧ w'.ownsRow w.heap.size 89 4 v (callsF s).length xs ∧ CRow w' w.heap.size (callsF s) xs ∧ Below w.heap.size w w' := by
  obtain ⟨base, V, cl, h1, h2⟩ := h
  refine (mcalls_any w t base M E V cl s h1 h2.n (fun f hf => ?_)).mono ?_
  · have h3 := (h2.fr f hf).sn
    unfold slotsN at h3
    split at h3
    · rename_i hs
      simp [slotsOk] at hs
      omega
    · omega
  · rintro e w' ⟨v, xs, rfl, o, c, b⟩
    rw [calls_eq h1.opn] at c
    have hl : (callsF s).length = cl.length := by simp [callsF, h1.opn]
    rw [← hl] at o
    exact ⟨v, xs, rfl, o, c, b⟩
end Go.Proofs.Yteeapfgjjankeaa.Mach
