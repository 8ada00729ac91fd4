/- The program's machine: a call's block becomes the machine's. -/
import Derived.Test.YteeapfgjjankeaaQHb
import Derived.Lib.AppendZerosOnto
import Derived.Laws.AppendOwn
namespace Go.Proofs.Yteeapfgjjankeaa.Mach
open Go.RowKit

theorem info_P' : (Try.prog.info? 74).map (fun i => (i.zero, i.size, i.bytes)) = some (some (.pointer none), 1, 8) := by kernel_rfl
theorem info_P : ∃ x, Try.prog.info? 74 = some x ∧ x.zero = some (.pointer none) ∧ x.size = 1 ∧ x.bytes = 8 := parts' info_P'
theorem slotsN_le (n : Int) : slotsN n ≤ 60000 := by
  unfold slotsN
  split
  · rename_i h
    simp [slotsOk] at h
    omega
  · omega
section
variable {w w' : World} {t : Nat → Nat} {base M : Nat} {E : Env} {V : MV} {cl : List (Fr × FV)} {s : St}
theorem MRep.newCall (h : MRep w t base M E V cl s) {args : List Int} {av : Value} (har : Row w t base 2 1 av args.length (intsV args) (9 + 4 * cl.length)) {fn dst : Int} {e : Ending} (hF : FrP w E fn args av dst e w') :
    ∃ F sv t', e = .returned (.pointer (some ⟨F, 0, none⟩)) ∧ Below w.heap.size w w' ∧ MRep w' t' base M E V cl s ∧ Fx w w' t t' ∧ PRep w' t' base cl.length (newFr E fn args dst, ⟨F, sv, av, .slice none 0 0⟩) := by
  obtain ⟨F, sv, he, hFw, hb, hf, hsv⟩ := hF
  have hsz := hb.size
  have hFl : F < w'.heap.size := (Array.getElem?_eq_some_iff.1 hf).1
  have hsb : ∀ k, sv.ownBlock = some k → w.heap.size ≤ k ∧ k < w'.heap.size ∧ k ≠ F := fun k hk => by
    obtain ⟨h1, cur, h2⟩ := oblk hsv k hk
    exact ⟨h1, (Array.getElem?_eq_some_iff.1 h2).1, fun e => by subst e; rw [hf] at h2; cases h2⟩
  obtain ⟨t', ht'⟩ : ∃ t', t' = updV (upd t F (7 + 4 * cl.length)) sv (8 + 4 * cl.length) := ⟨_, rfl⟩
  have hne : ∀ k, sv.ownBlock ≠ some k → k ≠ F → t' k = t k := fun k h1 h2 => by
    rw [ht']; unfold updV
    cases hv : sv.ownBlock with
    | none => exact upd_ne h2
    | some g => show upd (upd t F _) g _ k = t k; rw [upd_ne (fun e => h1 (by rw [hv, e])), upd_ne h2]
  have hFt : t' F = 7 + 4 * cl.length := by
    rw [ht']; unfold updV
    cases hv : sv.ownBlock with
    | none => exact upd_at _ _ _
    | some g => show upd (upd t F _) g _ F = _; rw [upd_ne (fun e => (hsb g hv).2.2 e.symm), upd_at]
  have h1 : ∀ k, k < w.heap.size → t' k = t k := fun k hk => hne k (fun e => by have := (hsb k e).1; omega) (by omega)
  have h2 : ∀ k, t' k ≠ 0 → k < w'.heap.size := fun k hk => by
    by_cases e1 : sv.ownBlock = some k
    · exact (hsb k e1).2.1
    by_cases e2 : k = F
    · rw [e2]; exact hFl
    · rw [hne k e1 e2] at hk; exact Nat.lt_of_lt_of_le (h.lt k hk) hsz
  obtain ⟨h3, h4⟩ := h.claimT hb h1 h2
  refine ⟨F, sv, t', he, hb, h3, h4, ⟨hf, hFt, by simp [newFr], ⟨?_, ?_⟩, Row.claimT har hb h1, Row.nil _ _ _ _ _ _⟩⟩
  · have e : (newFr E fn args dst).slots.length = slotsN (E.ent fn).2 := by simp [newFr]
    rw [e]
    exact obase hsv fun k hk => Nat.le_trans h.bs (hsb k hk).1
  · rw [ht']; exact updV_self _ _ _
/-- The new call's block stands behind the others. -/
theorem MRep.pushed {w8 : World} {o : Obj} {p : Fr × FV} {v' : Value} (h : MRep w t base M E V cl s) (hp : PRep w t base cl.length p)
    (hg : (w.alloc o).grownBy w8 V.ov.ownBlock) (hf : ∀ g, v'.ownBlock = some g → (w.alloc o).heap.size ≤ g ∨ V.ov.ownBlock = some g) (ho : w8.ownsRow base 74 1 v' (cl.length + 1) (ptrC cl ++ [.pointer (some ⟨p.2.blk, 0, none⟩)])) :
    MRep (w8.setCell ⟨M, 5, none⟩ v') (updV t v' 4) base M E { V with ov := v' } (cl ++ [p]) { s with opn := s.opn ++ [p.1] } ∧ Fx w (w8.setCell ⟨M, 5, none⟩ v') t (updV t v' 4) := by
  have T : Trn w w8 t (updV t v' 4) 4 base := Trn.app o hg h.ho.tag hf ho (by omega) h.bs
  exact h.push T ⟨by rw [ptrC_snoc]; exact ho, updV_self _ _ _⟩ (hp.trn T (by omega))
end
end Go.Proofs.Yteeapfgjjankeaa.Mach

/- Append of so many zeros ('append(s, make([]int64, k)...)') to a row of the call's own: the block is the old one, or a new one. -/
namespace Go.Proofs.Yteeapfgjjankeaa.Mach
open Go.RowKit

theorem zeros_is (k : Nat) : (Builtin.zeroCells #[Value.int .i64 0] k).toList = intsV (List.replicate k 0) := by
  refine List.ext_getElem? fun i => ?_
  simp only [Builtin.zeroCells, intsV, Array.toList_map, Array.toList_range, List.getElem?_map, List.map_replicate]
  by_cases h : i < k
  · simp [h, Nat.mod_one]
  · simp [h]
theorem run_append_zeros_room {P : Program} (w : World) (t tn ty e : TypeId) (i : TypeInfo) (kq kn : IntKind) (ht : P.underlying t = some (.slice e)) (htn : P.underlying tn = some (.int kn)) (hi : P.info? e = some i) (hz : i.zero = some (.int .i64 0)) (hs : i.size = 1) (hb : i.bytes = 8)
    (g sLen sCap : Nat) (cur : Array Value) (hg : w.heap[g]? = some (.cells cur e (0, 0))) (k : Nat) (h0 : 0 < k) (hk : k ≤ 100000) (hroom : sLen + k ≤ sCap) (hfit : sLen + k ≤ cur.size) :
    (Builtin.append_ #[t, tn] ty #[.slice (some ⟨g, 0, none⟩) sLen sCap, .int kq k]).run P w =
      .ok (.slice (some ⟨g, 0, none⟩) (sLen + k) sCap) (w.setRow g (cur.toList.take sLen ++ intsV (List.replicate k 0) ++ cur.toList.drop (sLen + k)).toArray) := by
  have hl : (intsV (List.replicate k 0)).length = k := by simp [intsV]
  have hst := run_storeCells_at P g sLen e (intsV (List.replicate k 0)) 0 cur w hg (by rw [hl]; simpa using hfit) (intsV_one _)
  simp only [Nat.add_zero, hl] at hst
  have hw : IntKind.i64.wrap (k : Int) = k := by rw [IntKind.wrap_i64]; omega
  have hneg : ¬ ((k : Int) < 0) := by omega
  have h48 : ¬ (281474976710656 < (k : Int) * 8) := by omega
  have hk0 : k ≠ 0 := by omega
  have hz2 : (Builtin.zeroCells (Value.int .i64 0).cells k).toList = intsV (List.replicate k 0) := zeros_is k
  simp [Builtin.append_, run_underlying ht, run_underlying htn, sizeOf, typeInfo, zeroValue, hi, hz, hs, hb, asInt, asIntOf, hw, hneg, h48, hk0, hroom, Addr.add_lit, hz2, hst]
theorem run_append_zeros_f {P : Program} (w : World) (base : Nat) (t tn ty e : TypeId) (i : TypeInfo) (kq kn : IntKind) (ht : P.underlying t = some (.slice e)) (htn : P.underlying tn = some (.int kn)) (hi : P.info? e = some i) (hz : i.zero = some (.int .i64 0)) (hs : i.size = 1) (hb : i.bytes = 8)
    (v : Value) (n : Nat) (xs : List Value) (hown : w.ownsRow base e 1 v n xs) (hn : 0 < n) (k : Nat) (h0 : 0 < k) (hk : k ≤ 100000) (hn2 : n ≤ 100000) (hbase : base ≤ w.heap.size) :
    ∃ v' w', (Builtin.append_ #[t, tn] ty #[v, .int kq k]).run P w = .ok v' w' ∧ w'.ownsRow base e 1 v' (n + k) (xs ++ intsV (List.replicate k 0)) ∧ w.grownBy w' v.ownBlock ∧ ∀ g, v'.ownBlock = some g → w.heap.size ≤ g ∨ v.ownBlock = some g := by
  have hl : (intsV (List.replicate k 0)).length = k := by simp [intsV]
  have hlen : (xs ++ intsV (List.replicate k 0)).length = (n + k) * 1 := by rw [List.length_append, hown.1, hl, Nat.add_mul, Nat.mul_one k]
  rcases hown.2 with ⟨rfl, rfl⟩ | ⟨g, cap, cur, rfl, hbg, hg, hnc, hcm, hcs, htake⟩
  · omega
  by_cases hroom : n + k ≤ cap
  · have hr := run_append_zeros_room (P := P) w t tn ty e i kq kn ht htn hi hz hs hb g n cap cur hg k h0 hk hroom (by omega)
    refine ⟨_, _, hr, ⟨hlen, .inr ⟨g, cap, _, rfl, hbg, setRow_heap w g cur _ e _ hg, hroom, hcm, ?_, ?_⟩⟩, ⟨rfl, rfl, rfl, by simp, fun k _ hk => setRow_other w g k _ (fun e => hk (by simp [Value.ownBlock, e]))⟩, fun g' hg' => .inr hg'⟩
    · simp only [List.size_toArray, List.length_append, List.length_take, List.length_drop, Array.length_toList, hl]
      omega
    · rw [Nat.mul_one] at htake
      rw [htake, ← hlen]
      exact List.take_left
  · have holds : ∀ j u, xs[j]? = some u → w.cell? ((⟨g, 0, none⟩ : Addr).add j) = some u := hown.cells (g := g) rfl
    have hf := run_firstCells_some (P := P) w.drew i.size n ⟨g, 0, none⟩ n cap xs (by rw [hs]; exact hown.1) holds
    have hfit := growslice_fits (need := n + k) (old := cap) (bytes := i.bytes) (by omega) (by rw [hb]; omega)
    have hr := Lib.run_append_grow_zeros (P := P) w t tn ty e i (.int .i64 0) kq kn ht htn hi hz (some ⟨g, 0, none⟩) n cap xs hf k h0 (by omega) (by omega) (by omega) (by rw [hb]; omega) hfit
    have hge := grownCap_ge w (n + k) cap e
    have hcm' : grownCap w (n + k) cap e ≤ maxLen := grownCap_le_maxLen w (n + k) cap e (by unfold maxLen; omega)
    refine ⟨_, _, hr, ⟨hlen, .inr ⟨w.heap.size, _, _, rfl, hbase, heap_alloc_new w.drew _, hge, hcm', ?_, ?_⟩⟩, ⟨rfl, rfl, rfl, by simp, fun k hk _ => heap_alloc_old w.drew _ hk⟩, fun g' hg' => ?_⟩
    · simp only [Array.size_append, List.size_toArray, size_zeroCells, hown.1, Value.cells]
      simp
      omega
    · simp only [Array.toList_append, List.append_assoc]
      rw [← List.append_assoc, ← hlen]
      have : (Builtin.zeroCells (Value.int .i64 0).cells k).toList = intsV (List.replicate k 0) := zeros_is k
      rw [this]
      exact List.take_left
    · simp [Value.ownBlock] at hg'
      exact .inl (by omega)
theorem step_append_zeros_f {P : Program} {ops : Array Oper} {o : Oper} {a : Act} {w : World} {K : Act → World → Prop} {Q : Exit → Act → World → Prop} {E : Prop}
    (hg : o.guard = none) (s x : Operand) (t tn : TypeId) (hop : o.op = Op.call { callee := Callee.builtin Builtin.append, args := #[s, x], argTypes := #[t, tn] })
    (base : Nat) (e : TypeId) (i : TypeInfo) (kq kn : IntKind) (ht : P.underlying t = some (.slice e)) (htn : P.underlying tn = some (.int kn)) (hi : P.info? e = some i) (hz : i.zero = some (.int .i64 0)) (hsi : i.size = 1) (hb : i.bytes = 8)
    (v : Value) (n : Nat) (xs : List Value) (hs : a.eval s = v) (hown : w.ownsRow base e 1 v n xs) (hn : 0 < n) (k : Nat) (hx : a.eval x = .int kq k) (h0 : 0 < k) (hk : k ≤ 100000) (hn2 : n ≤ 100000) (hbase : base ≤ w.heap.size)
    (hK : ∀ v' w', w'.ownsRow base e 1 v' (n + k) (xs ++ intsV (List.replicate k 0)) → w.grownBy w' v.ownBlock → (∀ g, v'.ownBlock = some g → w.heap.size ≤ g ∨ v.ownBlock = some g) → K (a.put o.dst v') w') :
    if Region.wanted o (yielded ops a.tmps) = true then Oper.wp P o a w K Q else E := by
  have hw : Region.wanted o (yielded ops a.tmps) = true := by simp [Region.wanted, hg]
  rw [if_pos hw]
  obtain ⟨v', w', hrun, h2, h3, h4⟩ := run_append_zeros_f (P := P) w base t tn o.type e i kq kn ht htn hi hz hsi hb v n xs hown hn k h0 hk hn2 hbase
  unfold Oper.wp
  simp [execOp, hop, resolve, invoke, builtin, hs, hx, hrun, Result.andThen]
  exact hK v' w' h2 h3 h4
end Go.Proofs.Yteeapfgjjankeaa.Mach
