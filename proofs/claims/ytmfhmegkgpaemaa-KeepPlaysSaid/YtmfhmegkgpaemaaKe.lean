/- Keep: the library's slices.Insert of one moment: its walks. -/
import Derived.Test.YtmfhmegkgpaemaaKd
namespace Go.Proofs.Ytmfhmegkgpaemaa
open Go.RowKit

theorem rdO_one {w : World} {B : Nat} {x : Int} {p : Value} (hB : w.heap[B]? = some (.cells #[.int .i64 x, p] 56 (0, 0))) : Rd w 2 (.slice (some ⟨B, 0, none⟩) 1 1) 1 (cellsO [(x, p)]) :=
  Rd.mk rfl (by decide) (by decide) fun j hj => by
    have : j = 0 ∨ j = 1 := by simp [cellsO] at hj; omega
    rcases this with rfl | rfl <;> simp [World.cell?, hB, cellsO]
theorem cells_one {w : World} {B : Nat} {x : Int} {p : Value} (hB : w.heap[B]? = some (.cells #[.int .i64 x, p] 56 (0, 0))) : ∀ j u, (cellsO [(x, p)])[j]? = some u → w.cell? ((⟨B, 0, none⟩ : Addr).add j) = some u := fun j u hu => by
  rw [add_plain, Nat.zero_add]
  have hj : j < 2 := by
    have := (List.getElem?_eq_some_iff.1 hu).1
    simpa [cellsO] using this
  have : j = 0 ∨ j = 1 := by omega
  rcases this with rfl | rfl <;> simp [World.cell?, hB, cellsO] at hu ⊢ <;> exact hu

/-- Where a row lies behind a call: where it lay, or in new memory. -/
def fromS (w : World) (v v' : Value) : Prop := v'.ownBlock = v.ownBlock ∨ ∀ k, v'.ownBlock = some k → w.heap.size ≤ k
theorem run_append_own_f {P : Program} (w : World) (base : Nat) (t ty e : TypeId) (i : TypeInfo) (z : Value) (size bytes : Nat) (ht : P.underlying t = some (.slice e)) (hi : P.info? e = some i) (hz : i.zero = some z)
    (hsize : i.size = size) (hby : i.bytes = bytes) (hzs : z.cells.size = size) (hsz : 0 < size)
    (v : Value) (n : Nat) (xs : List Value) (hown : w.ownsRow base e size v n xs)
    (a : Addr) (m c : Nat) (news : List Value) (hl : news.length = m * size) (hnews : ∀ j u, news[j]? = some u → w.cell? (a.add j) = some u) (h1 : ∀ u ∈ news, u.oneCell' = true)
    (h63 : n + m ≤ maxLen) (hbytes : (n + m) * bytes ≤ 140737488355328) (hbase : base ≤ w.heap.size) :
    ∃ v' w', (Builtin.append_ #[t, t] ty #[v, .slice (some a) m c]).run P w = .ok v' w' ∧ w'.ownsRow base e size v' (n + m) (xs ++ news) ∧ w.grownBy w' v.ownBlock ∧ fromS w v v' := by
  obtain ⟨v', w', hr, h2, h3, h4⟩ := run_append_own (P := P) w base t ty e i z size bytes ht hi hz hsize hby hzs hsz v n xs hown a m c news hl hnews h1 h63 hbytes hbase
  refine ⟨v', w', hr, h2, h3, ?_⟩
  subst hsize
  subst hby
  have hs : n + m ≤ 9223372036854775807 := by simp only [maxLen] at h63; omega
  rcases hown.2 with ⟨rfl, rfl⟩ | ⟨g, cap, cur, rfl, hbg, hg, hnc, hcm, hcs, htake⟩
  · by_cases hm : m = 0
    · rw [h4.2 ⟨rfl, hm⟩]; exact .inl rfl
    · have hr2 := run_append_nil (P := P) w t ty e i z ht hi hz a m c news hl hnews (by omega) (by omega) (by have hb := hbytes; simp only [Nat.zero_add] at hb; omega)
      rw [hr] at hr2
      cases hr2
      exact .inr fun k hk => by cases hk; exact Nat.le_refl _
  · by_cases hroom : n + m ≤ cap
    · have hfit : n * i.size + news.length ≤ cur.size := by rw [hl, hcs, ← Nat.add_mul]; exact Nat.mul_le_mul_right _ hroom
      have hr2 := run_append_room (P := P) w t ty e i ht hi g n cap cur hg a m c news hl hnews h1 hroom hfit
      rw [hr] at hr2
      cases hr2
      exact .inl rfl
    · have holds : ∀ j u, xs[j]? = some u → w.cell? ((⟨g, 0, none⟩ : Addr).add j) = some u := hown.cells (g := g) rfl
      have hr2 := run_append_grow (P := P) w t ty e i z ht hi hz ⟨g, 0, none⟩ n cap xs hown.1 holds a m c news hl hnews (by omega) (by omega) (growslice_fits (by omega) hbytes)
      rw [hr] at hr2
      cases hr2
      exact .inr fun k hk => by cases hk; exact Nat.le_refl _
theorem wpList_append_own_f {P : Program} (w : World) {ops : Array Oper} {rest : List Oper} {o : Oper} {a : Act} {Q : Exit → Act → World → Prop} (hgd : o.guard = none) (s x : Operand) (t : TypeId)
    (ho : o.op = .call { callee := .builtin .append, args := #[s, x], argTypes := #[t, t] })
    (base : Nat) (e : TypeId) (i : TypeInfo) (z : Value) (size bytes : Nat) (ht : P.underlying t = some (.slice e)) (hi : P.info? e = some i) (hz : i.zero = some z)
    (hsize : i.size = size) (hby : i.bytes = bytes) (hzs : z.cells.size = size) (hsz : 0 < size)
    (v : Value) (n : Nat) (xs : List Value) (hs : a.eval s = v) (hown : w.ownsRow base e size v n xs)
    (vx : Value) (m : Nat) (news : List Value) (hx : a.eval x = vx) (hr : Rd w size vx m news) (hm : 0 < m) (h1 : ∀ u ∈ news, u.oneCell' = true)
    (h63 : n + m ≤ maxLen) (hbytes : (n + m) * bytes ≤ 140737488355328) (hbase : base ≤ w.heap.size)
    (h : ∀ v' w', w'.ownsRow base e size v' (n + m) (xs ++ news) → w.grownBy w' v.ownBlock → fromS w v v' → wpList P ops Q rest (a.put o.dst v') w') : wpList P ops Q (o :: rest) a w := by
  rcases hr.2 with ⟨rfl, rfl⟩ | ⟨ad, c, rfl, _, _, hc⟩
  · omega
  · refine wpList_plain hgd fun _ hK => ?_
    obtain ⟨v', w', hr2, h2, h3, h4⟩ := run_append_own_f (P := P) w base t o.type e i z size bytes ht hi hz hsize hby hzs hsz v n xs hown ad m c news hr.1 hc h1 h63 hbytes hbase
    unfold Oper.wp execOp
    simp only [ho, resolve, invoke, builtin, Sem.run_bind, Sem.run_pure, Result.andThen_ok, List.map_toArray, List.map_cons, List.map_nil, hs, hx, hr2]
    exact hK _ _ (h v' w' h2 h3 h4)

set_option maxHeartbeats 4000000 in
set_option maxRecDepth 100000 in
theorem insert_end (v : Value) (base B : Nat) (x : Int) (p : Value) (l : List Mo) (w : World) (h : ownO w base v l) (hl : l.length ≤ 1000) (hp : SlV p) (hbase : base ≤ w.heap.size)
    (hB : w.heap[B]? = some (.cells #[.int .i64 x, p] 56 (0, 0))) :
    Calls Try.prog 17 #[v, .int .i64 l.length, .slice (some ⟨B, 0, none⟩) 1 1] w fun e w' =>
      ∃ v', e = .returned v' ∧ ownO w' base v' (l ++ [(x, p)]) ∧ w.grownBy w' v.ownBlock ∧ fromS w v v' := by
  obtain ⟨im, mi0, mz0, mz1, mz2⟩ := info_parts infoO
  obtain ⟨va, vc, rfl⟩ := (Rd.of_own h).shape
  obtain ⟨vs, hvs⟩ : ∃ vs, ∀ W, (Instr.slice 49 (.slice va l.length vc) (some (.int .i64 (l.length : Int))) none none).run Try.prog W = .ok vs W :=
    ⟨_, fun W => run_slice_from (P := Try.prog) 49 56 Try.underlying49 mi0 mz1 va l.length vc l.length _ rfl (by omega) W⟩
  have HO := Lib.hid h
  have h1 := cellsO_one [(x, p)] (by simpa using hp)
  have hr := rdO_one hB
  have b1 : l.length + 1 ≤ maxLen := by unfold maxLen; omega
  have b2 : (l.length + 1) * 32 ≤ 140737488355328 := by omega
  clear h hB
  go_enter Try.func17, Try.ntmps17
  go_wp2_with (at_builtin; refine wpList_append_own_f _ rfl _ _ 49 rfl base 56 im (.agg #[.int .i64 0, .slice none 0 0]) 2 32 Try.underlying49 mi0 mz0 mz1 mz2 rfl (by decide) _ _ _ rfl HO.out _ 1 (cellsO [(x, p)]) rfl hr (by decide) h1 b1 b2 hbase ?_; intro v' w' hown' hgrow' hfrom')
  go_ret
  refine ⟨_, rfl, ?_, hgrow', hfrom'⟩
  show World.ownsRow _ _ _ _ _ _ _
  rw [cellsO_append, List.length_append]
  exact hown'

theorem ins_list (l : List Mo) (i : Nat) (x : Int) (p : Value) : (cellsO l).take (i * 2) ++ .int .i64 x :: p :: (cellsO l).drop (i * 2) = cellsO (l.take i ++ (x, p) :: l.drop i) := by
  rw [cellsO_take, cellsO_drop, cellsO_append]; rfl

set_option maxHeartbeats 4000000 in
set_option maxRecDepth 100000 in
theorem insert_room (g c i base B : Nat) (x : Int) (p : Value) (l : List Mo) (w : World) (h : ownO w base (.slice (some ⟨g, 0, none⟩) l.length c) l) (hi : i < l.length) (hroom : l.length + 1 ≤ c) (hl : l.length ≤ 1000) (hS : ∀ m ∈ l, SlV m.2) (hp : SlV p)
    (hB : w.heap[B]? = some (.cells #[.int .i64 x, p] 56 (0, 0))) (hBg : B ≠ g) :
    Calls Try.prog 17 #[.slice (some ⟨g, 0, none⟩) l.length c, .int .i64 i, .slice (some ⟨B, 0, none⟩) 1 1] w fun e w' =>
      ∃ v', e = .returned v' ∧ ownO w' base v' (l.take i ++ (x, p) :: l.drop i) ∧ w.grownBy w' (some g) ∧ fromS w (.slice (some ⟨g, 0, none⟩) l.length c) v' := by
  obtain ⟨im, mi0, mz0, mz1, mz2⟩ := info_parts infoO
  have hsz : (Try.prog.info? 56).map (·.size) = some 2 := by rw [mi0]; simp [mz1]
  obtain ⟨cur, hbg, hg, hcm, hcs, htk⟩ : ∃ cur, base ≤ g ∧ w.heap[g]? = some (.cells cur 56 (0, 0)) ∧ c ≤ maxLen ∧ cur.size = c * 2 ∧ cur.toList.take (l.length * 2) = cellsO l := by
    rcases h.2 with ⟨h1, _⟩ | ⟨g', cap, cur, h1, h2, h3, h4, h5, h6, h7⟩
    · cases h1
    · cases h1; exact ⟨cur, h2, h3, h5, h6, h7⟩
  have hcO := cellsO_length l
  have hdO : (cellsO (l.drop i)).length = (l.length - i) * 2 := by rw [cellsO_length, List.length_drop]
  -- slices
  obtain ⟨vs, hvs⟩ : ∃ vs, ∀ W, (Instr.slice 49 (.slice (some ⟨g, 0, none⟩) l.length c) (some (.int .i64 (i : Int))) none none).run Try.prog W = .ok vs W :=
    ⟨_, fun W => run_slice_from (P := Try.prog) 49 56 Try.underlying49 mi0 mz1 _ l.length c i _ rfl (by omega) W⟩
  have hva : ∀ W, (Instr.slice 49 (.slice (some ⟨g, 0, none⟩) l.length c) none (some (.int .i64 ((l.length : Int) + 1))) none).run Try.prog W = .ok (.slice (some ⟨g, 0, none⟩) (l.length + 1) c) W := fun W =>
    run_slice_to (P := Try.prog) 49 56 Try.underlying49 mi0 mz1 (some ⟨g, 0, none⟩) l.length c (l.length + 1) _ (by omega) hroom W
  have hvb : ∀ W, (Instr.slice 49 (.slice (some ⟨g, 0, none⟩) (l.length + 1) c) (some (.int .i64 ((i : Int) + 1))) none none).run Try.prog W = .ok (.slice (some ⟨g, (i + 1) * 2, none⟩) (l.length - i) (c - (i + 1))) W := fun W => by
    have h := run_slice_from (P := Try.prog) 49 56 Try.underlying49 mi0 mz1 (some ⟨g, 0, none⟩) (l.length + 1) c (i + 1) ((i : Int) + 1) (by omega) (by omega) W
    rw [if_neg (by omega), Option.map_some, add_plain, Nat.zero_add, Nat.add_sub_add_right] at h
    exact h
  have hvc : ∀ W, (Instr.slice 49 (.slice (some ⟨g, 0, none⟩) (l.length + 1) c) (some (.int .i64 (i : Int))) none none).run Try.prog W = .ok (.slice (some ⟨g, i * 2, none⟩) (l.length + 1 - i) (c - i)) W := fun W => by
    have h := run_slice_from (P := Try.prog) 49 56 Try.underlying49 mi0 mz1 (some ⟨g, 0, none⟩) (l.length + 1) c i (i : Int) rfl (by omega) W
    rw [if_neg (by omega), Option.map_some, add_plain, Nat.zero_add] at h
    exact h
  -- do they overlap? no
  have hov : ∀ lb cb, (callFunc 26 #[.slice (some ⟨B, 0, none⟩) 1 1, .slice (some ⟨g, (i + 1) * 2, none⟩) lb cb]).run Try.prog w = .ok (.value (.bool false)) w := fun lb cb => by
    rw [run_callFunc_extern Try.func26 (by kernel_rfl) (by kernel_rfl) (by kernel_rfl) (e := Extern.SlicesOverlaps.overlaps #[49, 49] #[4]) (by kernel_rfl),
      Lib.run_overlaps_apart w 49 4 56 Try.underlying49 2 (fun w => by simp [sizeOf, typeInfo, mi0, mz1]) ⟨B, 0, none⟩ ⟨g, (i + 1) * 2, none⟩ 1 1 lb cb hBg 56 56 2 cur.size
        (by simp [World.shape?, hB]) (by simp [World.shape?, hg]) (by omega) (by simp [World.frozen?, hB]) (by simp [World.frozen?, hB])]
    rfl
  -- the copies
  have hmin1 : Nat.min (l.length + 1 - i) (l.length - i) = l.length - i := by show min _ _ = _; omega
  have hmin2 : Nat.min 1 (l.length + 1 - i) = 1 := by show min _ _ = _; omega
  have hvl1 : ∀ u ∈ cellsO (l.drop i), u.oneCell' = true := cellsO_one _ fun m hm => hS m (List.mem_of_mem_drop hm)
  have hvl2 : ∀ u ∈ cellsO [(x, p)], u.oneCell' = true := cellsO_one _ (by simpa using hp)
  obtain ⟨c1, hc1⟩ : ∃ c1, c1 = (cur.toList.take ((i + 1) * 2) ++ cellsO (l.drop i) ++ cur.toList.drop ((i + 1) * 2 + (cellsO (l.drop i)).length)) := ⟨_, rfl⟩
  have hc1l : c1.length = c * 2 := by rw [hc1]; simp [hdO]; omega
  have hcp1 := fun ty dc sc => run_copy_rowK (P := Try.prog) w.drew 49 49 ty 56 2 g ((i + 1) * 2) (l.length - i) dc ⟨g, i * 2, none⟩ (l.length + 1 - i) sc cur 56 (cellsO (l.drop i)) Try.underlying49 hsz hg
    (by rw [hdO, hmin1]) (fun j u hu => by
      rw [← cellsO_drop, List.getElem?_drop] at hu
      have := h.cells rfl _ u hu
      rw [add_plain] at this ⊢
      rwa [Nat.zero_add] at this) (by rw [hdO]; omega) hvl1
  rw [← hc1] at hcp1
  obtain ⟨W1, hW1⟩ : ∃ W1, W1 = w.drew.setRow g c1.toArray := ⟨_, rfl⟩
  rw [← hW1] at hcp1
  have hg1 : W1.heap[g]? = some (.cells c1.toArray 56 (0, 0)) := by rw [hW1]; exact setRow_heap _ g cur _ _ _ hg
  have hB1 : W1.heap[B]? = some (.cells #[.int .i64 x, p] 56 (0, 0)) := by rw [hW1, setRow_other _ _ _ _ hBg]; exact hB
  have hcp2 := fun ty dc => run_copy_rowK (P := Try.prog) W1 49 49 ty 56 2 g (i * 2) (l.length + 1 - i) dc ⟨B, 0, none⟩ 1 1 c1.toArray 56 (cellsO [(x, p)]) Try.underlying49 hsz hg1
    (by rw [hmin2]; rfl) (cells_one hB1) (by simp [cellsO, hc1l]; omega) hvl2
  obtain ⟨W2, hW2⟩ : ∃ W2, W2 = W1.setRow g (c1.toArray.toList.take (i * 2) ++ cellsO [(x, p)] ++ c1.toArray.toList.drop (i * 2 + (cellsO [(x, p)]).length)).toArray := ⟨_, rfl⟩
  rw [← hW2] at hcp2
  have hfin : ownO W2 base (.slice (some ⟨g, 0, none⟩) (l.length + 1) c) (l.take i ++ (x, p) :: l.drop i) := by
    have hlen : (l.take i ++ (x, p) :: l.drop i).length = l.length + 1 := by simp; omega
    show World.ownsRow _ _ _ _ _ _ _
    rw [hlen]
    refine ⟨by rw [cellsO_length, hlen], .inr ⟨g, c, _, rfl, hbg, by rw [hW2]; exact setRow_heap _ g _ _ _ _ hg1, hroom, hcm, ?_, ?_⟩⟩
    · simp [cellsO, hc1l]; omega
    · rw [← ins_list, ← ins_up cur.toList (cellsO l) l.length i (.int .i64 x) p htk hcO (by omega) (by simp [hcs]; omega)]
      rw [cellsO_drop, ← hc1]
      rfl
  have hgrow : w.grownBy W2 (some g) := by
    rw [hW2, hW1]
    exact ⟨rfl, rfl, rfl, by simp [World.setRow], fun k hk hne => by rw [setRow_other _ _ _ _ (fun e => hne (by rw [e])), setRow_other _ _ _ _ (fun e => hne (by rw [e]))]; rfl⟩
  have HE := Lib.hid (And.intro hfin hgrow)
  have hii : ((i : Int) == (l.length : Int)) = false := by simp; omega
  have hrm : decide ((c : Int) < (l.length : Int) + 1) = false := decide_eq_false (by omega)
  have mixed : Try.prog.follows Departure.mixedOrders = true := by kernel_rfl
  have hw1 : IntKind.i64.wrap ((i : Int) + 1) = (i : Int) + 1 := by rw [IntKind.wrap_i64]; omega
  have hb1 : (0 : Int) ≤ (i : Int) + 1 := by omega
  have htn : ((i : Int) + 1).toNat = i + 1 := by omega
  have hb2 : ¬ (c = i + 1) := by omega
  have hb3 : (i : Int) ≤ (l.length : Int) + 1 := by omega
  have hb5 : (i : Int) + 1 ≤ (l.length : Int) + 1 := by omega
  have hb4 : ¬ (c = i) := by omega
  have hb6 : i ≤ l.length := by omega
  clear hfin hgrow hW2 hW1 hc1 hc1l hg1 hB1 hvl1 hvl2 htk hcs hg h hB hS hp
  go_enter Try.func17, Try.ntmps17
  go_wp2_with (simp only [hov])
  go_region_law_o (refine step_copy_runK rfl _ _ 49 49 rfl _ _ (by simp [Act.eval, Act.put]) (by simp [Act.eval, Act.put]) (hcp1 _ _ _) ?_)
  simp (config := { failIfUnchanged := false }) only [Act.put, Exit.then]
  go_wp2_with (at_builtin; refine wpList_copy_runK _ rfl _ _ 49 49 rfl _ _ rfl rfl (hcp2 _ _) ?_)
  go_ret
  exact ⟨_, rfl, HE.out.1, HE.out.2, .inl rfl⟩
end Go.Proofs.Ytmfhmegkgpaemaa
