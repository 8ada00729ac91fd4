/- Keep: the library's slices.Insert of one moment: its walks. -/
import Derived.Test.YtgjmdcbdkdmceaaQz26
import Derived.Lib.SliceRun
namespace Go.Proofs.Ytgjmdcbdkdmceaa
open Go.RowKit

theorem rdO_one {w : World} {B : Nat} {x : Int} {p : Value} (hB : w.heap[B]? = some (.cells #[.int .i64 x, p] 132 (0, 0))) : Rd w 2 (.slice (some ⟨B, 0, none⟩) 1 1) 1 (cellsO [(x, p)]) :=
  Rd.mk rfl (by decide) (by decide) fun j hj => by
    have : j = 0 ∨ j = 1 := by simp [cellsO] at hj; omega
    rcases this with rfl | rfl <;> simp [World.cell?, hB, cellsO]
theorem cells_one {w : World} {B : Nat} {x : Int} {p : Value} (hB : w.heap[B]? = some (.cells #[.int .i64 x, p] 132 (0, 0))) : ∀ j u, (cellsO [(x, p)])[j]? = some u → w.cell? ((⟨B, 0, none⟩ : Addr).add j) = some u := fun j u hu => by
  rw [add_plain, Nat.zero_add]
  have hj : j < 2 := by
    have := (List.getElem?_eq_some_iff.1 hu).1
    simpa [cellsO] using this
  have : j = 0 ∨ j = 1 := by omega
  rcases this with rfl | rfl <;> simp [World.cell?, hB, cellsO] at hu ⊢ <;> exact hu

/-- Where a row lies behind a call: where it lay, or in new memory. -/
def fromS (w : World) (v v' : Value) : Prop := v'.ownBlock = v.ownBlock ∨ ∀ k, v'.ownBlock = some k → w.heap.size ≤ k
theorem run_append_own_f {P : Program} (w : World) (base : Nat) (t ty e : TypeId) (i : TypeInfo) (z : Value) (size bytes : Nat) (ht : P.underlying t = some (.slice e)) (hi : P.info? e = some i) (hz : i.zero = some z)
    (hsize : i.size = size) (hby : i.bytes = bytes) (hzs : z.cells.size = size) (hsz : 0 < size)
    (v : Value) (n : Nat) (xs : List Value) (hown : w.ownsRow base e size v n xs)
    (a : Addr) (m c : Nat) (news : List Value) (hl : news.length = m * size) (hnews : ∀ j u, news[j]? = some u → w.cell? (a.add j) = some u) (h1 : ∀ u ∈ news, u.oneCell' = true)
    (h63 : n + m ≤ maxLen) (hbytes : (n + m) * bytes ≤ 140737488355328) (hbase : base ≤ w.heap.size) :
    ∃ v' w', (Builtin.append_ #[t, t] ty #[v, .slice (some a) m c]).run P w = .ok v' w' ∧ w'.ownsRow base e size v' (n + m) (xs ++ news) ∧ w.grownBy w' v.ownBlock ∧ fromS w v v' := by
  obtain ⟨v', w', hr, h2, h3, h4⟩ := run_append_own (P := P) w base t ty e i z size bytes ht hi hz hsize hby hzs hsz v n xs hown a m c news hl hnews h1 h63 hbytes hbase
  refine ⟨v', w', hr, h2, h3, ?_⟩
  subst hsize
  subst hby
  have hs : n + m ≤ 9223372036854775807 := by simp only [maxLen] at h63; omega
  rcases hown.2 with ⟨rfl, rfl⟩ | ⟨g, cap, cur, rfl, hbg, hg, hnc, hcm, hcs, htake⟩
  · by_cases hm : m = 0
    · rw [h4.2 ⟨rfl, hm⟩]; exact .inl rfl
    · have hr2 := run_append_nil (P := P) w t ty e i z ht hi hz a m c news hl hnews (by omega) (by omega) (by have hb := hbytes; simp only [Nat.zero_add] at hb; omega)
      rw [hr] at hr2
      cases hr2
      exact .inr fun k hk => by cases hk; exact Nat.le_refl _
  · by_cases hroom : n + m ≤ cap
    · have hfit : n * i.size + news.length ≤ cur.size := by rw [hl, hcs, ← Nat.add_mul]; exact Nat.mul_le_mul_right _ hroom
      have hr2 := run_append_room (P := P) w t ty e i ht hi g n cap cur hg a m c news hl hnews h1 hroom hfit
      rw [hr] at hr2
      cases hr2
      exact .inl rfl
    · have holds : ∀ j u, xs[j]? = some u → w.cell? ((⟨g, 0, none⟩ : Addr).add j) = some u := hown.cells (g := g) rfl
      have hr2 := run_append_grow (P := P) w t ty e i z ht hi hz ⟨g, 0, none⟩ n cap xs hown.1 holds a m c news hl hnews (by omega) (by omega) (growslice_fits (by omega) hbytes)
      rw [hr] at hr2
      cases hr2
      exact .inr fun k hk => by cases hk; exact Nat.le_refl _
theorem wpList_append_own_f {P : Program} (w : World) {ops : Array Oper} {rest : List Oper} {o : Oper} {a : Act} {Q : Exit → Act → World → Prop} (hgd : o.guard = none) (s x : Operand) (t : TypeId)
    (ho : o.op = .call { callee := .builtin .append, args := #[s, x], argTypes := #[t, t] })
    (base : Nat) (e : TypeId) (i : TypeInfo) (z : Value) (size bytes : Nat) (ht : P.underlying t = some (.slice e)) (hi : P.info? e = some i) (hz : i.zero = some z)
    (hsize : i.size = size) (hby : i.bytes = bytes) (hzs : z.cells.size = size) (hsz : 0 < size)
    (v : Value) (n : Nat) (xs : List Value) (hs : a.eval s = v) (hown : w.ownsRow base e size v n xs)
    (vx : Value) (m : Nat) (news : List Value) (hx : a.eval x = vx) (hr : Rd w size vx m news) (hm : 0 < m) (h1 : ∀ u ∈ news, u.oneCell' = true)
    (h63 : n + m ≤ maxLen) (hbytes : (n + m) * bytes ≤ 140737488355328) (hbase : base ≤ w.heap.size)
    (h : ∀ v' w', w'.ownsRow base e size v' (n + m) (xs ++ news) → w.grownBy w' v.ownBlock → fromS w v v' → wpList P ops Q rest (a.put o.dst v') w') : wpList P ops Q (o :: rest) a w := by
  rcases hr.2 with ⟨rfl, rfl⟩ | ⟨ad, c, rfl, _, _, hc⟩
  · omega
  · refine wpList_plain hgd fun _ hK => ?_
    obtain ⟨v', w', hr2, h2, h3, h4⟩ := run_append_own_f (P := P) w base t o.type e i z size bytes ht hi hz hsize hby hzs hsz v n xs hown ad m c news hr.1 hc h1 h63 hbytes hbase
    unfold Oper.wp execOp
    simp only [ho, resolve, invoke, builtin, Sem.run_bind, Sem.run_pure, Result.andThen_ok, List.map_toArray, List.map_cons, List.map_nil, hs, hx, hr2]
    exact hK _ _ (h v' w' h2 h3 h4)

set_option maxHeartbeats 4000000 in
set_option maxRecDepth 100000 in
theorem insert_end (v : Value) (base B : Nat) (x : Int) (p : Value) (l : List Mo) (w : World) (h : ownO w base v l) (hl : l.length ≤ 1000) (hp : SlV p) (hbase : base ≤ w.heap.size)
    (hB : w.heap[B]? = some (.cells #[.int .i64 x, p] 132 (0, 0))) :
    Calls Try.prog 76 #[v, .int .i64 l.length, .slice (some ⟨B, 0, none⟩) 1 1] w fun e w' =>
      ∃ v', e = .returned v' ∧ ownO w' base v' (l ++ [(x, p)]) ∧ w.grownBy w' v.ownBlock ∧ fromS w v v' := by
  obtain ⟨im, mi0, mz0, mz1, mz2⟩ := info_parts infoO
  obtain ⟨va, vc, rfl⟩ := (Rd.of_own h).shape
  obtain ⟨vs, hvs⟩ : ∃ vs, ∀ W, (Instr.slice 101 (.slice va l.length vc) (some (.int .i64 (l.length : Int))) none none).run Try.prog W = .ok vs W :=
    ⟨_, fun W => run_slice_from (P := Try.prog) 101 132 Try.underlying101 mi0 mz1 va l.length vc l.length _ rfl (by omega) W⟩
  have HO := Lib.hid h
  have h1 := cellsO_one [(x, p)] (by simpa using hp)
  have hr := rdO_one hB
  have b1 : l.length + 1 ≤ maxLen := by unfold maxLen; omega
  have b2 : (l.length + 1) * 32 ≤ 140737488355328 := by omega
  clear h hB
  go_enter Try.func76, Try.ntmps76
  go_wp2_with (at_builtin; refine wpList_append_own_f _ rfl _ _ 101 rfl base 132 im (.agg #[.int .i64 0, .slice none 0 0]) 2 32 Try.underlying101 mi0 mz0 mz1 mz2 rfl (by decide) _ _ _ rfl HO.out _ 1 (cellsO [(x, p)]) rfl hr (by decide) h1 b1 b2 hbase ?_; intro v' w' hown' hgrow' hfrom')
  go_ret
  refine ⟨_, rfl, ?_, hgrow', hfrom'⟩
  show World.ownsRow _ _ _ _ _ _ _
  rw [cellsO_append, List.length_append]
  exact hown'

theorem ins_list (l : List Mo) (i : Nat) (x : Int) (p : Value) : (cellsO l).take (i * 2) ++ .int .i64 x :: p :: (cellsO l).drop (i * 2) = cellsO (l.take i ++ (x, p) :: l.drop i) := by
  rw [cellsO_take, cellsO_drop, cellsO_append]; rfl

set_option maxHeartbeats 4000000 in
set_option maxRecDepth 100000 in
theorem insert_room (g c i base B : Nat) (x : Int) (p : Value) (l : List Mo) (w : World) (h : ownO w base (.slice (some ⟨g, 0, none⟩) l.length c) l) (hi : i < l.length) (hroom : l.length + 1 ≤ c) (hl : l.length ≤ 1000) (hS : ∀ m ∈ l, SlV m.2) (hp : SlV p)
    (hB : w.heap[B]? = some (.cells #[.int .i64 x, p] 132 (0, 0))) (hBg : B ≠ g) :
    Calls Try.prog 76 #[.slice (some ⟨g, 0, none⟩) l.length c, .int .i64 i, .slice (some ⟨B, 0, none⟩) 1 1] w fun e w' =>
      ∃ v', e = .returned v' ∧ ownO w' base v' (l.take i ++ (x, p) :: l.drop i) ∧ w.grownBy w' (some g) ∧ fromS w (.slice (some ⟨g, 0, none⟩) l.length c) v' := by
  obtain ⟨im, mi0, mz0, mz1, mz2⟩ := info_parts infoO
  have hsz : (Try.prog.info? 132).map (·.size) = some 2 := by rw [mi0]; simp [mz1]
  obtain ⟨cur, hbg, hg, hcm, hcs, htk⟩ : ∃ cur, base ≤ g ∧ w.heap[g]? = some (.cells cur 132 (0, 0)) ∧ c ≤ maxLen ∧ cur.size = c * 2 ∧ cur.toList.take (l.length * 2) = cellsO l := by
    rcases h.2 with ⟨h1, _⟩ | ⟨g', cap, cur, h1, h2, h3, h4, h5, h6, h7⟩
    · cases h1
    · cases h1; exact ⟨cur, h2, h3, h5, h6, h7⟩
  have hcO := cellsO_length l
  have hdO : (cellsO (l.drop i)).length = (l.length - i) * 2 := by rw [cellsO_length, List.length_drop]
  -- slices
  obtain ⟨vs, hvs⟩ : ∃ vs, ∀ W, (Instr.slice 101 (.slice (some ⟨g, 0, none⟩) l.length c) (some (.int .i64 (i : Int))) none none).run Try.prog W = .ok vs W :=
    ⟨_, fun W => run_slice_from (P := Try.prog) 101 132 Try.underlying101 mi0 mz1 _ l.length c i _ rfl (by omega) W⟩
  have hva : ∀ W, (Instr.slice 101 (.slice (some ⟨g, 0, none⟩) l.length c) none (some (.int .i64 ((l.length : Int) + 1))) none).run Try.prog W = .ok (.slice (some ⟨g, 0, none⟩) (l.length + 1) c) W := fun W =>
    run_slice_to (P := Try.prog) 101 132 Try.underlying101 mi0 mz1 (some ⟨g, 0, none⟩) l.length c (l.length + 1) _ (by omega) hroom W
  have hvb : ∀ W, (Instr.slice 101 (.slice (some ⟨g, 0, none⟩) (l.length + 1) c) (some (.int .i64 ((i : Int) + 1))) none none).run Try.prog W = .ok (.slice (some ⟨g, (i + 1) * 2, none⟩) (l.length - i) (c - (i + 1))) W := fun W => by
    have h := run_slice_from (P := Try.prog) 101 132 Try.underlying101 mi0 mz1 (some ⟨g, 0, none⟩) (l.length + 1) c (i + 1) ((i : Int) + 1) (by omega) (by omega) W
    rw [if_neg (by omega), Option.map_some, add_plain, Nat.zero_add, Nat.add_sub_add_right] at h
    exact h
  have hvc : ∀ W, (Instr.slice 101 (.slice (some ⟨g, 0, none⟩) (l.length + 1) c) (some (.int .i64 (i : Int))) none none).run Try.prog W = .ok (.slice (some ⟨g, i * 2, none⟩) (l.length + 1 - i) (c - i)) W := fun W => by
    have h := run_slice_from (P := Try.prog) 101 132 Try.underlying101 mi0 mz1 (some ⟨g, 0, none⟩) (l.length + 1) c i (i : Int) rfl (by omega) W
    rw [if_neg (by omega), Option.map_some, add_plain, Nat.zero_add] at h
    exact h
  -- do they overlap? no
  have hov : ∀ lb cb, (callFunc 95 #[.slice (some ⟨B, 0, none⟩) 1 1, .slice (some ⟨g, (i + 1) * 2, none⟩) lb cb]).run Try.prog w = .ok (.value (.bool false)) w := fun lb cb => by
    rw [run_callFunc_extern Try.func95 (by kernel_rfl) (by kernel_rfl) (by kernel_rfl) (e := Extern.SlicesOverlaps.overlaps #[101, 101] #[4]) (by kernel_rfl),
      Lib.run_overlaps_apart w 101 4 132 Try.underlying101 2 (fun w => by simp [sizeOf, typeInfo, mi0, mz1]) ⟨B, 0, none⟩ ⟨g, (i + 1) * 2, none⟩ 1 1 lb cb hBg 132 132 2 cur.size
        (by simp [World.shape?, hB]) (by simp [World.shape?, hg]) (by omega) (by simp [World.frozen?, hB]) (by simp [World.frozen?, hB])]
    rfl
  -- the copies
  have hmin1 : Nat.min (l.length + 1 - i) (l.length - i) = l.length - i := by show min _ _ = _; omega
  have hmin2 : Nat.min 1 (l.length + 1 - i) = 1 := by show min _ _ = _; omega
  have hvl1 : ∀ u ∈ cellsO (l.drop i), u.oneCell' = true := cellsO_one _ fun m hm => hS m (List.mem_of_mem_drop hm)
  have hvl2 : ∀ u ∈ cellsO [(x, p)], u.oneCell' = true := cellsO_one _ (by simpa using hp)
  obtain ⟨c1, hc1⟩ : ∃ c1, c1 = (cur.toList.take ((i + 1) * 2) ++ cellsO (l.drop i) ++ cur.toList.drop ((i + 1) * 2 + (cellsO (l.drop i)).length)) := ⟨_, rfl⟩
  have hc1l : c1.length = c * 2 := by rw [hc1]; simp [hdO]; omega
  have hcp1 := fun ty dc sc => run_copy_rowK (P := Try.prog) w.drew 101 101 ty 132 2 g ((i + 1) * 2) (l.length - i) dc ⟨g, i * 2, none⟩ (l.length + 1 - i) sc cur 132 (cellsO (l.drop i)) Try.underlying101 hsz hg
    (by rw [hdO, hmin1]) (fun j u hu => by
      rw [← cellsO_drop, List.getElem?_drop] at hu
      have := h.cells rfl _ u hu
      rw [add_plain] at this ⊢
      rwa [Nat.zero_add] at this) (by rw [hdO]; omega) hvl1
  rw [← hc1] at hcp1
  obtain ⟨W1, hW1⟩ : ∃ W1, W1 = w.drew.setRow g c1.toArray := ⟨_, rfl⟩
  rw [← hW1] at hcp1
  have hg1 : W1.heap[g]? = some (.cells c1.toArray 132 (0, 0)) := by rw [hW1]; exact setRow_heap _ g cur _ _ _ hg
  have hB1 : W1.heap[B]? = some (.cells #[.int .i64 x, p] 132 (0, 0)) := by rw [hW1, setRow_other _ _ _ _ hBg]; exact hB
  have hcp2 := fun ty dc => run_copy_rowK (P := Try.prog) W1 101 101 ty 132 2 g (i * 2) (l.length + 1 - i) dc ⟨B, 0, none⟩ 1 1 c1.toArray 132 (cellsO [(x, p)]) Try.underlying101 hsz hg1
    (by rw [hmin2]; rfl) (cells_one hB1) (by simp [cellsO, hc1l]; omega) hvl2
  obtain ⟨W2, hW2⟩ : ∃ W2, W2 = W1.setRow g (c1.toArray.toList.take (i * 2) ++ cellsO [(x, p)] ++ c1.toArray.toList.drop (i * 2 + (cellsO [(x, p)]).length)).toArray := ⟨_, rfl⟩
  rw [← hW2] at hcp2
  have hfin : ownO W2 base (.slice (some ⟨g, 0, none⟩) (l.length + 1) c) (l.take i ++ (x, p) :: l.drop i) := by
    have hlen : (l.take i ++ (x, p) :: l.drop i).length = l.length + 1 := by simp; omega
    show World.ownsRow _ _ _ _ _ _ _
    rw [hlen]
    refine ⟨by rw [cellsO_length, hlen], .inr ⟨g, c, _, rfl, hbg, by rw [hW2]; exact setRow_heap _ g _ _ _ _ hg1, hroom, hcm, ?_, ?_⟩⟩
    · simp [cellsO, hc1l]; omega
    · rw [← ins_list, ← ins_up cur.toList (cellsO l) l.length i (.int .i64 x) p htk hcO (by omega) (by simp [hcs]; omega)]
      rw [cellsO_drop, ← hc1]
      rfl
  have hgrow : w.grownBy W2 (some g) := by
    rw [hW2, hW1]
    exact ⟨rfl, rfl, rfl, by simp [World.setRow], fun k hk hne => by rw [setRow_other _ _ _ _ (fun e => hne (by rw [e])), setRow_other _ _ _ _ (fun e => hne (by rw [e]))]; rfl⟩
  have HE := Lib.hid (And.intro hfin hgrow)
  have hii : ((i : Int) == (l.length : Int)) = false := by simp; omega
  have hrm : decide ((c : Int) < (l.length : Int) + 1) = false := decide_eq_false (by omega)
  have mixed : Try.prog.follows Departure.mixedOrders = true := by kernel_rfl
  have hw1 : IntKind.i64.wrap ((i : Int) + 1) = (i : Int) + 1 := by rw [IntKind.wrap_i64]; omega
  have hb1 : (0 : Int) ≤ (i : Int) + 1 := by omega
  have htn : ((i : Int) + 1).toNat = i + 1 := by omega
  have hb2 : ¬ (c = i + 1) := by omega
  have hb3 : (i : Int) ≤ (l.length : Int) + 1 := by omega
  have hb5 : (i : Int) + 1 ≤ (l.length : Int) + 1 := by omega
  have hb4 : ¬ (c = i) := by omega
  have hb6 : i ≤ l.length := by omega
  clear hfin hgrow hW2 hW1 hc1 hc1l hg1 hB1 hvl1 hvl2 htk hcs hg h hB hS hp
  go_enter Try.func76, Try.ntmps76
  go_wp2_with (simp only [hov])
  go_region_law_o (refine step_copy_runK rfl _ _ 101 101 rfl _ _ (by simp [Act.eval, Act.put]) (by simp [Act.eval, Act.put]) (hcp1 _ _ _) ?_)
  simp (config := { failIfUnchanged := false }) only [Exit.then]
  go_wp2_with (at_builtin; refine wpList_copy_runK _ rfl _ _ 101 101 rfl _ _ rfl rfl (hcp2 _ _) ?_)
  go_ret
  exact ⟨_, rfl, HE.out.1, HE.out.2, .inl rfl⟩
end Go.Proofs.Ytgjmdcbdkdmceaa

/- Keep: the library's slices.Insert of one moment, where there is no room. -/
namespace Go.Proofs.Ytgjmdcbdkdmceaa
open Go.RowKit

theorem size_zeroCells (z : Array Value) (n : Nat) : (Builtin.zeroCells z n).size = n * z.size := by simp [Builtin.zeroCells]

set_option maxHeartbeats 4000000 in
set_option maxRecDepth 100000 in
theorem insert_grow (g c i base B : Nat) (x : Int) (p : Value) (l : List Mo) (w : World) (h : ownO w base (.slice (some ⟨g, 0, none⟩) l.length c) l) (hi : i < l.length) (hroom : c < l.length + 1) (hl : l.length ≤ 1000) (hS : ∀ m ∈ l, SlV m.2) (hp : SlV p) (hbase : base ≤ w.heap.size)
    (hB : w.heap[B]? = some (.cells #[.int .i64 x, p] 132 (0, 0))) (_hBg : B ≠ g) :
    Calls Try.prog 76 #[.slice (some ⟨g, 0, none⟩) l.length c, .int .i64 i, .slice (some ⟨B, 0, none⟩) 1 1] w fun e w' =>
      ∃ v', e = .returned v' ∧ ownO w' base v' (l.take i ++ (x, p) :: l.drop i) ∧ w.grownBy w' (some g) ∧ fromS w (.slice (some ⟨g, 0, none⟩) l.length c) v' := by
  obtain ⟨im, mi0, mz0, mz1, mz2⟩ := info_parts infoO
  have hsz : (Try.prog.info? 132).map (·.size) = some 2 := by rw [mi0]; simp [mz1]
  obtain ⟨cur, hbg, hg, hlc, hcm, hcs, htk⟩ : ∃ cur, base ≤ g ∧ w.heap[g]? = some (.cells cur 132 (0, 0)) ∧ l.length ≤ c ∧ c ≤ maxLen ∧ cur.size = c * 2 ∧ cur.toList.take (l.length * 2) = cellsO l := by
    rcases h.2 with ⟨h1, _⟩ | ⟨g', cap, cur, h1, h2, h3, h4, h5, h6, h7⟩
    · cases h1
    · cases h1; exact ⟨cur, h2, h3, h4, h5, h6, h7⟩
  have hcO := cellsO_length l
  have hdO : (cellsO (l.drop i)).length = (l.length - i) * 2 := by rw [cellsO_length, List.length_drop]
  have htO : (cellsO (l.take i)).length = i * 2 := by rw [cellsO_length, List.length_take]; omega
  have hglt : g < w.heap.size := (Array.getElem?_eq_some_iff.1 hg).1
  have hBlt : B < w.heap.size := (Array.getElem?_eq_some_iff.1 hB).1
  -- the new row
  obtain ⟨C, hC⟩ : ∃ C, C = grownCap w (l.length + 1) c 132 := ⟨_, rfl⟩
  have hCge : l.length + 1 ≤ C := by rw [hC]; exact grownCap_ge ..
  have hCle : C ≤ maxLen := by rw [hC]; exact grownCap_le_maxLen _ _ _ _ (by unfold maxLen; omega)
  obtain ⟨row, hrow⟩ : ∃ row, row = (cellsO (l.take i)).toArray ++ Builtin.zeroCells (Value.agg #[.int .i64 0, .slice none 0 0]).cells (l.length + 1 - i) ++ Builtin.zeroCells (Value.agg #[.int .i64 0, .slice none 0 0]).cells (C - (l.length + 1)) := ⟨_, rfl⟩
  have hz2 : (Value.agg #[.int .i64 0, .slice none 0 0]).cells.size = 2 := by kernel_rfl
  have hrs : row.size = C * 2 := by rw [hrow]; simp only [Array.size_append, size_zeroCells, hz2, List.size_toArray, htO]; omega
  have hrt : row.toList.take (i * 2) = (cellsO l).take (i * 2) := by
    rw [hrow, cellsO_take]
    simp only [Array.toList_append, List.append_assoc]
    exact List.take_left' htO
  have hap : ∀ ty, (Builtin.append_ #[101, 3] ty #[.slice (some ⟨g, 0, none⟩) i c, .int .i64 ((l.length : Int) + 1 - (i : Int))]).run Try.prog w = .ok (.slice (some ⟨w.heap.size, 0, none⟩) (l.length + 1) C) (w.drew.alloc (.cells row 132)) := fun ty => by
    have h1 := Lib.run_append_grow_zeros (P := Try.prog) w 101 3 ty 132 im _ .i64 .i64 Try.underlying101 Try.underlying3 mi0 mz0 (some ⟨g, 0, none⟩) i c (cellsO (l.take i))
      (run_firstCells_some (P := Try.prog) w.drew im.size i ⟨g, 0, none⟩ i c (cellsO (l.take i)) (by rw [mz1, htO]) (fun j u hu => by
        rw [← cellsO_take, List.getElem?_take] at hu
        split at hu
        · exact h.cells rfl _ u hu
        · cases hu)) (l.length + 1 - i) (by omega) (by omega) (by omega) (by omega) (by rw [mz2]; omega) (by
        have := nextslicecap_le (need := i + (l.length + 1 - i)) (old := c) (by omega)
        rw [mz2]
        have e : i + (l.length + 1 - i) = l.length + 1 := by omega
        rw [e] at this ⊢
        omega)
    have e : i + (l.length + 1 - i) = l.length + 1 := by omega
    rw [e, ← hC, ← hrow] at h1
    have e2 : ((l.length + 1 - i : Nat) : Int) = (l.length : Int) + 1 - (i : Int) := by omega
    rw [e2] at h1
    exact h1
  obtain ⟨W0, hW0⟩ : ∃ W0, W0 = w.drew.alloc (.cells row 132) := ⟨_, rfl⟩
  rw [← hW0] at hap
  obtain ⟨k, hk⟩ : ∃ k, k = w.heap.size := ⟨_, rfl⟩
  rw [← hk] at hap
  have hkge : w.heap.size ≤ k := by omega
  have hk0 : W0.heap[k]? = some (.cells row 132 (0, 0)) := by rw [hW0, hk]; exact heap_alloc_new w.drew _
  have hold : ∀ j, j < w.heap.size → W0.heap[j]? = w.heap[j]? := fun j hj => by rw [hW0]; exact heap_alloc_old w.drew _ hj
  have hkg : k ≠ g := by omega
  have hBk : B ≠ k := by omega
  have hmin1 : Nat.min (l.length - i) (l.length - i) = l.length - i := by show min _ _ = _; omega
  have hmin2 : Nat.min 1 (l.length + 1 - i) = 1 := by show min _ _ = _; omega
  -- slices
  obtain ⟨vs, hvs⟩ : ∃ vs, vs = Value.slice (some ⟨g, i * 2, none⟩) (l.length - i) (c - i) := ⟨_, rfl⟩
  have hva : ∀ W, (Instr.slice 101 (.slice (some ⟨g, 0, none⟩) l.length c) (some (.int .i64 (i : Int))) none none).run Try.prog W = .ok (.slice (some ⟨g, i * 2, none⟩) (l.length - i) (c - i)) W := fun W => by
    have h := run_slice_from (P := Try.prog) 101 132 Try.underlying101 mi0 mz1 (some ⟨g, 0, none⟩) l.length c i (i : Int) rfl (by omega) W
    rw [if_neg (by omega), Option.map_some, add_plain, Nat.zero_add] at h
    exact h
  have hvb : ∀ W, (Instr.slice 101 (.slice (some ⟨g, 0, none⟩) l.length c) none (some (.int .i64 (i : Int))) none).run Try.prog W = .ok (.slice (some ⟨g, 0, none⟩) i c) W := fun W =>
    run_slice_to (P := Try.prog) 101 132 Try.underlying101 mi0 mz1 (some ⟨g, 0, none⟩) l.length c i (i : Int) rfl (by omega) W
  have hvc : ∀ W, (Instr.slice 101 (.slice (some ⟨k, 0, none⟩) (l.length + 1) C) (some (.int .i64 (i : Int))) none none).run Try.prog W = .ok (.slice (some ⟨k, i * 2, none⟩) (l.length + 1 - i) (C - i)) W := fun W => by
    have h := run_slice_from (P := Try.prog) 101 132 Try.underlying101 mi0 mz1 (some ⟨k, 0, none⟩) (l.length + 1) C i (i : Int) rfl (by omega) W
    rw [if_neg (by omega), Option.map_some, add_plain, Nat.zero_add] at h
    exact h
  -- the copies
  have hvl1 : ∀ u ∈ cellsO (l.drop i), u.oneCell' = true := cellsO_one _ fun m hm => hS m (List.mem_of_mem_drop hm)
  have hvl2 : ∀ u ∈ cellsO [(x, p)], u.oneCell' = true := cellsO_one _ (by simpa using hp)
  have hB0 : W0.heap[B]? = some (.cells #[.int .i64 x, p] 132 (0, 0)) := by rw [hold B hBlt]; exact hB
  have hcp1 := fun ty dc => run_copy_rowK (P := Try.prog) W0 101 101 ty 132 2 k (i * 2) (l.length + 1 - i) dc ⟨B, 0, none⟩ 1 1 row 132 (cellsO [(x, p)]) Try.underlying101 hsz hk0
    (by rw [hmin2]; rfl) (cells_one hB0) (by simp [cellsO, hrs]; omega) hvl2
  obtain ⟨c1, hc1⟩ : ∃ c1, c1 = (row.toList.take (i * 2) ++ cellsO [(x, p)] ++ row.toList.drop (i * 2 + (cellsO [(x, p)]).length)) := ⟨_, rfl⟩
  have hc1l : c1.length = C * 2 := by rw [hc1]; simp [cellsO, hrs]; omega
  rw [← hc1] at hcp1
  obtain ⟨W1, hW1⟩ : ∃ W1, W1 = W0.setRow k c1.toArray := ⟨_, rfl⟩
  rw [← hW1] at hcp1
  have hk1 : W1.drew.heap[k]? = some (.cells c1.toArray 132 (0, 0)) := by show W1.heap[k]? = _; rw [hW1]; exact setRow_heap _ k row _ _ _ hk0
  have hg1 : W1.drew.heap[g]? = w.heap[g]? := by show W1.heap[g]? = _; rw [hW1, setRow_other _ _ _ _ hkg.symm, hold g hglt]
  have hcp2 := fun ty dc sc => run_copy_rowK (P := Try.prog) W1.drew 101 101 ty 132 2 k ((i + 1) * 2) (l.length - i) dc ⟨g, i * 2, none⟩ (l.length - i) sc c1.toArray 132 (cellsO (l.drop i)) Try.underlying101 hsz hk1
    (by rw [hdO, hmin1]) (fun j u hu => by
      rw [← cellsO_drop, List.getElem?_drop] at hu
      have := h.cells rfl _ u hu
      rw [add_plain, Nat.zero_add] at this
      rw [add_plain]
      rw [← this]
      exact World.cell?_of_block (a := ⟨g, i * 2 + j, none⟩) hg1) (by rw [hdO]; simp [hc1l]; omega) hvl1
  obtain ⟨W2, hW2⟩ : ∃ W2, W2 = W1.drew.setRow k (c1.toArray.toList.take ((i + 1) * 2) ++ cellsO (l.drop i) ++ c1.toArray.toList.drop ((i + 1) * 2 + (cellsO (l.drop i)).length)).toArray := ⟨_, rfl⟩
  rw [← hW2] at hcp2
  have hfin : ownO W2 base (.slice (some ⟨k, 0, none⟩) (l.length + 1) C) (l.take i ++ (x, p) :: l.drop i) := by
    have hlen : (l.take i ++ (x, p) :: l.drop i).length = l.length + 1 := by simp; omega
    show World.ownsRow _ _ _ _ _ _ _
    rw [hlen]
    refine ⟨by rw [cellsO_length, hlen], .inr ⟨k, C, _, rfl, by omega, by rw [hW2]; exact setRow_heap _ k _ _ _ _ hk1, hCge, hCle, ?_, ?_⟩⟩
    · simp [hdO, hc1l]; omega
    · rw [← ins_list, ← ins_new row.toList (cellsO l) l.length i (.int .i64 x) p hrt hcO (by omega) (by simp [hrs]; omega)]
      rw [cellsO_drop]
      simp only [hc1]
      rfl
  have hgrow : w.grownBy W2 (some g) := by
    refine ⟨by rw [hW2, hW1, hW0]; rfl, by rw [hW2, hW1, hW0]; rfl, by rw [hW2, hW1, hW0]; rfl, ?_, fun j hj hne => ?_⟩
    · have e : W2.heap.size = W0.heap.size := by rw [hW2, hW1]; simp [World.setRow]
      rw [e, hW0]; simp
    · rw [hW2, setRow_other _ _ _ _ (by omega)]
      show W1.heap[j]? = _
      rw [hW1, setRow_other _ _ _ _ (by omega), hold j hj]
  have HE := Lib.hid (And.intro hfin hgrow)
  have hii : ((i : Int) == (l.length : Int)) = false := by simp; omega
  have hrm : (c : Int) < (l.length : Int) + 1 := by omega
  have mixed : Try.prog.follows Departure.mixedOrders = true := by kernel_rfl
  have hw1 : IntKind.i64.wrap ((i : Int) + 1) = (i : Int) + 1 := by rw [IntKind.wrap_i64]; omega
  have hb1 : (0 : Int) ≤ (i : Int) + 1 := by omega
  have htn : ((i : Int) + 1).toNat = i + 1 := by omega
  have hb2 : ¬ (C = i + 1) := by omega
  have hb3 : (i : Int) ≤ (l.length : Int) := by omega
  have hb5 : (i : Int) + 1 ≤ (l.length : Int) + 1 := by omega
  have hb4 : ¬ (c = i) := by omega
  have hb6 : i ≤ l.length := by omega
  clear hfin hgrow hW2 hW1 hW0 hc1 hc1l hg1 hB0 hvl1 hvl2 htk hcs hg h hB hS hp hold hk0 hk1 hk hrow hrs hrt hC hvs
  go_enter Try.func76, Try.ntmps76
  go_wp2_with (first
    | (at_builtin; refine wpList_append_runK _ rfl _ _ 101 3 rfl _ _ rfl rfl (hap _) ?_)
    | (at_builtin; refine wpList_copy_runK _ rfl _ _ 101 101 rfl _ _ rfl rfl (hcp1 _ _) ?_))
  go_region_law_o (refine step_copy_runK rfl _ _ 101 101 rfl _ _ (by simp [Act.eval, Act.put]) (by simp [Act.eval, Act.put]) (hcp2 _ _ _) ?_)
  simp (config := { failIfUnchanged := false }) only [Exit.then]
  go_wp2_with fail
  go_ret
  exact ⟨_, rfl, HE.out.1, HE.out.2, .inr fun k' hk' => by cases hk'; exact hkge⟩
end Go.Proofs.Ytgjmdcbdkdmceaa

/- Keep: one moment more; bytes copied; the store's search. -/
namespace Go.Proofs.Ytgjmdcbdkdmceaa
open Go.RowKit

theorem insert_any (v : Value) (i base B : Nat) (x : Int) (p : Value) (l : List Mo) (w : World) (h : ownO w base v l) (hi : i ≤ l.length) (hl : l.length ≤ 1000) (hS : ∀ m ∈ l, SlV m.2) (hp : SlV p) (hbase : base ≤ w.heap.size)
    (hB : w.heap[B]? = some (.cells #[.int .i64 x, p] 132 (0, 0))) (hBg : ∀ k, v.ownBlock = some k → B ≠ k) :
    Calls Try.prog 76 #[v, .int .i64 i, .slice (some ⟨B, 0, none⟩) 1 1] w fun e w' =>
      ∃ v', e = .returned v' ∧ ownO w' base v' (l.take i ++ (x, p) :: l.drop i) ∧ w.grownBy w' v.ownBlock ∧ fromS w v v' := by
  by_cases hil : i = l.length
  · subst hil
    have := insert_end v base B x p l w h hl hp hbase hB
    rw [List.take_length, List.drop_length]
    exact this
  · have hlt : i < l.length := by omega
    rcases h.2 with ⟨h1, h2⟩ | ⟨g, c, cur, rfl, h2, h3, h4, h5, h6, h7⟩
    · omega
    · by_cases hroom : l.length + 1 ≤ c
      · exact insert_room g c i base B x p l w h hlt hroom hl hS hp hB (hBg g rfl)
      · exact insert_grow g c i base B x p l w h hlt (by omega) hl hS hp hbase hB (hBg g rfl)

theorem infoB : (Try.prog.info? 5).map (fun i => (i.zero, i.size, i.bytes)) = some (some (.int .u8 0), 1, 1) := by kernel_rfl
abbrev ownB (w : World) (base : Nat) (v : Value) (l : List Int) : Prop := w.ownsRow base 5 1 v l.length (l.map (Value.int .u8))
theorem ownB.rd {w : World} {base : Nat} {v : Value} {l : List Int} (h : ownB w base v l) : RdB w v l := Rd.of_own h
theorem ownB.slV {w : World} {base : Nat} {v : Value} {l : List Int} (h : ownB w base v l) : SlV v := by
  obtain ⟨a, c, e⟩ := (Rd.of_own h).shape
  exact ⟨a, _, c, e⟩
theorem own_emptyB (w : World) : (w.alloc (.cells #[] 5)).ownsRow w.heap.size 5 1 (.slice (some ⟨w.heap.size, 0, none⟩) 0 0) 0 [] :=
  ⟨rfl, .inr ⟨w.heap.size, 0, #[], rfl, Nat.le_refl _, heap_alloc_new _ _, Nat.le_refl _, Nat.zero_le _, rfl, rfl⟩⟩

set_option maxHeartbeats 4000000 in
theorem clone_any (v : Value) (l : List Int) (w : World) (hv : RdB w v l) (hl : l.length ≤ 1000000) :
    Calls Try.prog 73 #[v] w fun e w' => ∃ v', e = .returned v' ∧ ownB w' w.heap.size v' l ∧ Below w.heap.size w w' := by
  obtain ⟨im, mi0, mz0, mz1, mz2⟩ := info_parts infoB
  have HV := Lib.hid hv
  have hnl := fun W a n c => Lib.run_eql_slice_nil (P := Try.prog) W 24 5 a n c 0 0 Try.underlying24
  rcases hv.2 with ⟨rfl, h0⟩ | ⟨a, c, rfl, h1, h2, h3⟩
  · have hl0 : l = [] := List.eq_nil_of_length_eq_zero h0
    subst hl0
    go_enter Try.func73, Try.ntmps73
    go_wp2_with fail
    go_ret
    exact ⟨_, rfl, ⟨rfl, .inl ⟨rfl, rfl⟩⟩, Below.refl _ _⟩
  · have b1 : 0 + l.length ≤ maxLen := by unfold maxLen; omega
    have b2 : (0 + l.length) * 1 ≤ 140737488355328 := by omega
    have HR : Hid (RdB (w.alloc (.cells #[] 5)) _ l) := Rd.alloc HV.out _
    clear hv h1 h2 h3
    go_enter Try.func73, Try.ntmps73
    go_wp2_with (at_builtin; refine wpList_append_own_rd _ rfl _ _ 24 rfl w.heap.size 5 im (.int .u8 0) 1 1 Try.underlying24 mi0 mz0 mz1 mz2 rfl (by decide) _ 0 [] rfl (own_emptyB w) _ l.length (l.map (Value.int .u8)) rfl HR.out (ints_oneCell .u8 _) b1 b2 (by simp) ?_; intro v' w' hown' hgrow')
    go_ret
    refine ⟨_, rfl, ?_, ((Below.refl _ _).alloc (Nat.le_refl _) _).grown hgrow' (by simp) (fun k hk => by cases hk; exact Nat.le_refl _)⟩
    show World.ownsRow _ _ _ _ _ _ _
    have := hown'
    rw [Nat.zero_add, List.nil_append] at this
    exact this

/-- The store in memory: how many at most, its moments' row. -/
structure StAt (w : World) (base Bs : Nat) (most : Int) (v : Value) (l : List Mo) (S : List (Int × List Int)) : Prop where
  at_ : w.heap[Bs]? = some (.cells #[.int .i64 most, v] 103 (0, 0))
  lb : base ≤ Bs
  row : ownO w base v l
  len : l.length = S.length
  ats : ∀ i, (hi : i < l.length) → (hi2 : i < S.length) → l[i].1 = S[i].1
  ps : ∀ i, (hi : i < l.length) → (hi2 : i < S.length) → ownB w base l[i].2 S[i].2
theorem StAt.sl {w : World} {base Bs : Nat} {most : Int} {v : Value} {l : List Mo} {S : List (Int × List Int)} (h : StAt w base Bs most v l S) : ∀ m ∈ l, SlV m.2 := fun m hm => by
  obtain ⟨i, hi, rfl⟩ := List.getElem_of_mem hm
  exact (h.ps i hi (by have := h.len; omega)).slV
def RisS (S : List (Int × List Int)) : Prop := ∀ i j, (hi : i < S.length) → (hj : j < S.length) → i < j → S[i].1 < S[j].1
theorem StAt.rising {w : World} {base Bs : Nat} {most : Int} {v : Value} {l : List Mo} {S : List (Int × List Int)} (h : StAt w base Bs most v l S) (hr : RisS S) : Rising l := fun i j hi hj hij => by
  have e := h.len
  rw [h.ats i hi (by omega), h.ats j hj (by omega)]
  exact hr i j (by omega) (by omega) hij

set_option maxHeartbeats 2000000 in
theorem find_any (x : Int) (w : World) (base Bs : Nat) (most : Int) (v : Value) (l : List Mo) (S : List (Int × List Int)) (h : StAt w base Bs most v l S) (hR : RisS S) (hl : l.length ≤ 1000) :
    Calls Try.prog 70 #[.pointer (some ⟨Bs, 0, none⟩), .int .i64 x] w fun e w' => ∃ i : Nat, e = .returned (.tuple #[.int .i64 i, .bool (hasAt l i x)]) ∧ FindAt l x i ∧ Below w.heap.size w w' := by
  have HS := Lib.hid (search_any v l x w (Rd.of_own h.row) h.sl (h.rising hR) hl)
  have c1 : w.cell? ⟨Bs, 0, none⟩ = some (.int .i64 most) := by simp [World.cell?, h.at_]
  have c2 : w.cell? ⟨Bs, 1, none⟩ = some v := by simp [World.cell?, h.at_]
  have hlt : Bs < w.heap.size := (Array.getElem?_eq_some_iff.1 h.at_).1
  obtain ⟨va, vc, rfl⟩ := (Rd.of_own h.row).shape
  clear h hR
  go_enter Try.func70, Try.ntmps70
  go_wp2_with fail
  refine HS.out.mono ?_
  rintro e w1 ⟨i, rfl, hf, hb⟩
  have HF := Lib.hid (And.intro hf hb)
  clear hf hb
  go_wp2_with fail
  go_ret2
  exact ⟨i, rfl, HF.out.1, HF.out.2⟩
end Go.Proofs.Ytgjmdcbdkdmceaa

/- Keep: New, List, Bytes. -/
namespace Go.Proofs.Ytgjmdcbdkdmceaa
open Go.RowKit

theorem infoI : (Try.prog.info? 3).map (fun i => (i.zero, i.size, i.bytes)) = some (some (.int .i64 0), 1, 8) := by kernel_rfl
abbrev ownI (w : World) (base : Nat) (v : Value) (xs : List Int) : Prop := w.ownsRow base 3 1 v xs.length (xs.map (Value.int .i64))

set_option maxHeartbeats 2000000 in
theorem new_any (most : Int) (w : World) :
    Calls Try.prog 31 #[.int .i64 most] w fun e w' => ((1 ≤ most ∧ most ≤ 64) ∧ e = .returned (.tuple #[.pointer (some ⟨w.heap.size, 0, none⟩), .int .i64 0]) ∧ StAt w' w.heap.size w.heap.size most (.slice none 0 0) [] [] ∧ Below w.heap.size w w') ∨ (¬ (1 ≤ most ∧ most ≤ 64) ∧ e = .returned (.tuple #[.pointer none, .int .i64 1]) ∧ w' = w) := by
  by_cases h1 : most < 1
  · go_enter Try.func31, Try.ntmps31
    go_wp2_with fail
    go_ret2
    exact .inr ⟨by omega, rfl, rfl⟩
  · by_cases h2 : 64 < most
    · have b1 : decide (most < 1) = false := decide_eq_false h1
      have H := Lib.hid (And.intro h1 h2)
      have b2 : decide ((64 : Int) < most) = true := decide_eq_true h2
      clear h1 h2
      go_enter Try.func31, Try.ntmps31
      go_wp2_with fail
      go_ret2
      exact .inr ⟨by have := H.out; omega, rfl, rfl⟩
    · have b1 : decide (most < 1) = false := decide_eq_false h1
      have b2 : decide ((64 : Int) < most) = false := decide_eq_false h2
      have H := Lib.hid (And.intro h1 h2)
      clear h1 h2
      go_enter Try.func31, Try.ntmps31
      go_wp2_with fail
      go_ret2
      exact .inl ⟨by have := H.out; omega, rfl, ⟨heap_alloc_new _ _, Nat.le_refl _, ⟨rfl, .inl ⟨rfl, rfl⟩⟩, rfl, fun i hi => by simp at hi, fun i hi => by simp at hi⟩, (Below.refl _ _).alloc (Nat.le_refl _) _⟩

theorem rd_ione (w : World) (x : Int) (k : Nat) (hk : k = w.heap.size) : Rd (w.alloc (.cells #[.int .i64 x] 3)) 1 (.slice (some ⟨k, 0, none⟩) 1 1) 1 [.int .i64 x] := by
  subst hk
  exact Rd.mk rfl (by decide) (by decide) fun j hj => by
    have : j = 0 := by simp at hj; omega
    subst this
    rw [World.cell?_alloc_at _ _ _ _ rfl]; rfl

set_option maxHeartbeats 4000000 in
theorem list_any (w : World) (base Bs : Nat) (most : Int) (v : Value) (l : List Mo) (S : List (Int × List Int)) (h : StAt w base Bs most v l S) (hl : l.length ≤ 1000) :
    Calls Try.prog 46 #[.pointer (some ⟨Bs, 0, none⟩)] w fun e w' => ∃ u, e = .returned u ∧ ownI w' w.heap.size u (l.map (·.1)) ∧ Below w.heap.size w w' := by
  obtain ⟨im, mi0, mz0, mz1, mz2⟩ := info_parts infoI
  have c1 : w.cell? ⟨Bs, 0, none⟩ = some (.int .i64 most) := by simp [World.cell?, h.at_]
  have c2 : w.cell? ⟨Bs, 1, none⟩ = some v := by simp [World.cell?, h.at_]
  have hlt : Bs < w.heap.size := (Array.getElem?_eq_some_iff.1 h.at_).1
  have HV : Hid (RdO w v l) := Rd.of_own h.row
  have HS := Lib.hid h.sl
  obtain ⟨va, vc, rfl⟩ := (Rd.of_own h.row).shape
  clear h
  go_enter Try.func46, Try.ntmps46
  go_wp2_with fail
  go_loopw [13, 3] (fun i out wr => ∃ j : Nat, j ≤ l.length ∧ i = .int .i64 j ∧ Hid (ownI wr w.heap.size out ((l.take j).map (·.1))) ∧ Hid (Below w.heap.size w wr)) (fun i _ _ => l.length - (intOf i).toNat)
  case atStart => exact ⟨0, by omega, rfl, ⟨rfl, .inl ⟨rfl, rfl⟩⟩, Below.refl _ _⟩
  case round =>
    obtain ⟨wa, rfl⟩ : ∃ wa : World, wa = wr := ⟨_, rfl⟩
    obtain ⟨j, hj, rfl, HO, HB⟩ := hrel
    obtain ⟨oa, oc, rfl⟩ := (Rd.of_own HO.out).shape
    have hsz := HB.out.size
    by_cases hlt : j < l.length
    · rcases HV.out.split with ⟨a, c, h0, h1⟩ | ⟨b, off, c, h0, hp, hlc, hc9, hb, hcell⟩
      · subst h1; simp at hlt
      · simp only [Value.slice.injEq] at h0
        obtain ⟨rfl, _, rfl⟩ := h0
        obtain ⟨d1, d2⟩ := hcell j hlt
        rw [← HB.out.cell (p := ⟨b, off + j * 2, none⟩) hb] at d1
        rw [← HB.out.cell (p := ⟨b, off + j * 2 + 1, none⟩) hb] at d2
        have hbr : b < wa.heap.size := Nat.lt_of_lt_of_le hb hsz
        obtain ⟨pa, pn, pc, hpp⟩ := HS.out _ (List.getElem_mem hlt)
        rw [hpp] at d2
        obtain ⟨x, hx⟩ : ∃ x, l[j].1 = x := ⟨_, rfl⟩
        rw [hx] at d1
        have htk : ((l.take j).map (·.1)).length = j := by rw [List.length_map, List.length_take]; omega
        have hnx : (l.take j).map (·.1) ++ [x] = (l.take (j + 1)).map (·.1) := by
          rw [List.take_succ_eq_append_getElem hlt, List.map_append, ← hx]; rfl
        have b1 : Hid (((l.take j).map (·.1)).length + 1 ≤ maxLen) := by show _ ≤ _; unfold maxLen; omega
        have b2 : Hid ((((l.take j).map (·.1)).length + 1) * 8 ≤ 140737488355328) := by show _ ≤ _; omega
        obtain ⟨xs, hxs⟩ : ∃ xs, (l.take j).map (·.1) = xs := ⟨_, rfl⟩
        rw [hxs] at HO b1 b2 hnx
        have HNX := Lib.hid hnx
        rw [hxs]
        clear hx hpp hcell htk hnx hxs
        go_wp2_with (at_builtin; refine wpList_append_own_rd _ rfl _ _ 28 rfl w.heap.size 3 im (.int .i64 0) 1 8 Try.underlying28 mi0 mz0 mz1 mz2 rfl (by decide) _ _ _ rfl ((HO.out.alloc _).alloc _) (.slice (some ⟨wa.heap.size + 1, 0, none⟩) 1 1) 1 [.int .i64 x] rfl (rd_ione (wa.alloc _) x _ (by simp)) (by intro u hu; simp at hu; subst hu; rfl) b1.out b2.out (by simp; omega) ?_; intro v' w4 hown4 hgrow4)
        refine ⟨⟨j + 1, by omega, by go_num, ?_, ((HB.out.alloc hsz _).alloc (by simp; omega) _).grown hgrow4 (by simp; omega) (fun k hk => (HO.out.lt k hk).1)⟩, by simp [intOf]; omega⟩
        rw [← HNX.out]
        show World.ownsRow _ _ _ _ _ _ _
        rw [List.length_append, List.map_append]
        exact hown4
    · obtain rfl : j = l.length := by omega
      rw [List.take_length] at HO
      rw [List.take_length]
      go_wp2_with fail
      go_ret
      exact ⟨_, rfl, HO.out, HB.out⟩
end Go.Proofs.Ytgjmdcbdkdmceaa

/- Keep: what a call on a store leaves. -/
namespace Go.Proofs.Ytgjmdcbdkdmceaa
open Go.RowKit

/-- What a call on the store leaves: all blocks but the store's own. -/
def KeepS (w w' : World) : Prop := ∀ (k : Nat) (o : Obj), w.heap[k]? = some o → (∀ c f, o ≠ .cells c 132 f) → (∀ c f, o ≠ .cells c 103 f) → w'.heap[k]? = some o
theorem KeepS.of_below {w w' : World} (h : Below w.heap.size w w') : KeepS w w' := fun k o hk _ _ => by rw [h.block k (Array.getElem?_eq_some_iff.1 hk).1]; exact hk
theorem KeepS.trans {w w' w'' : World} (h1 : KeepS w w') (h2 : KeepS w' w'') : KeepS w w'' := fun k o hk ha hb => h2 k o (h1 k o hk ha hb) ha hb
end Go.Proofs.Ytgjmdcbdkdmceaa

/- Keep: the store's moments one by one; Drop. -/
namespace Go.Proofs.Ytgjmdcbdkdmceaa
open Go.RowKit

/-- Moments in memory and what they are, one by one. -/
def Prs (w : World) (base : Nat) : List Mo → List (Int × List Int) → Prop
  | [], [] => True
  | m :: l, s :: S => (m.1 = s.1 ∧ ownB w base m.2 s.2) ∧ Prs w base l S
  | _, _ => False
section
variable {w : World} {base : Nat}
theorem Prs.len : ∀ {l : List Mo} {S : List (Int × List Int)}, Prs w base l S → l.length = S.length
  | [], [], _ => rfl
  | m :: l, s :: S, h => by simp [Prs.len h.2]
theorem Prs.at_ : ∀ {l : List Mo} {S : List (Int × List Int)}, Prs w base l S → ∀ i, (hi : i < l.length) → (hi2 : i < S.length) → l[i].1 = S[i].1 ∧ ownB w base l[i].2 S[i].2
  | m :: l, s :: S, h, 0, _, _ => h.1
  | m :: l, s :: S, h, i + 1, hi, hi2 => Prs.at_ h.2 i (by simpa using hi) (by simpa using hi2)
theorem Prs.of : ∀ {l : List Mo} {S : List (Int × List Int)}, l.length = S.length → (∀ i, (hi : i < l.length) → (hi2 : i < S.length) → l[i].1 = S[i].1 ∧ ownB w base l[i].2 S[i].2) → Prs w base l S
  | [], [], _, _ => trivial
  | m :: l, s :: S, hl, h => ⟨h 0 (by simp) (by simp), Prs.of (by simpa using hl) fun i hi hi2 => h (i + 1) (by simpa using hi) (by simpa using hi2)⟩
theorem Prs.take : ∀ {l : List Mo} {S : List (Int × List Int)} (i : Nat), Prs w base l S → Prs w base (l.take i) (S.take i)
  | [], [], i, _ => by simp [Prs]
  | m :: l, s :: S, 0, _ => by simp [Prs]
  | m :: l, s :: S, i + 1, h => ⟨h.1, Prs.take i h.2⟩
theorem Prs.drop : ∀ {l : List Mo} {S : List (Int × List Int)} (i : Nat), Prs w base l S → Prs w base (l.drop i) (S.drop i)
  | [], [], i, _ => by simp [Prs]
  | m :: l, s :: S, 0, h => h
  | m :: l, s :: S, i + 1, h => Prs.drop i h.2
theorem Prs.append : ∀ {l l2 : List Mo} {S S2 : List (Int × List Int)}, Prs w base l S → Prs w base l2 S2 → Prs w base (l ++ l2) (S ++ S2)
  | [], _, [], _, _, h2 => h2
  | _m :: _l, _, _s :: _S, _, h, h2 => ⟨h.1, Prs.append h.2 h2⟩
theorem Prs.erase {l : List Mo} {S : List (Int × List Int)} (i : Nat) (h : Prs w base l S) : Prs w base (l.eraseIdx i) (S.eraseIdx i) := by
  rw [eraseIdx_take_drop, eraseIdx_take_drop]
  exact (h.take i).append (h.drop (i + 1))
theorem Prs.map {w' : World} : ∀ {l : List Mo} {S : List (Int × List Int)}, (∀ p b, ownB w base p b → ownB w' base p b) → Prs w base l S → Prs w' base l S
  | [], [], _, _ => trivial
  | _m :: _l, _s :: _S, hk, h => ⟨⟨h.1.1, hk _ _ h.1.2⟩, Prs.map hk h.2⟩
end
theorem StAt.prs {w : World} {base Bs : Nat} {most : Int} {v : Value} {l : List Mo} {S : List (Int × List Int)} (h : StAt w base Bs most v l S) : Prs w base l S :=
  Prs.of h.len fun i hi hi2 => ⟨h.ats i hi hi2, h.ps i hi hi2⟩
theorem own_blk {w : World} {base : Nat} {e : TypeId} {size n : Nat} {v : Value} {xs : List Value} (h : w.ownsRow base e size v n xs) : ∀ k, v.ownBlock = some k → base ≤ k ∧ ∃ cur, w.heap[k]? = some (.cells cur e (0, 0)) := by
  intro k hk
  rcases h.2 with ⟨rfl, _⟩ | ⟨g, cap, cur, rfl, h1, h2, _⟩
  · cases hk
  · simp [Value.ownBlock] at hk; subst hk; exact ⟨h1, cur, h2⟩
theorem own_same {w w' : World} {base : Nat} {e : TypeId} {size n : Nat} {v : Value} {xs : List Value} (h : w.ownsRow base e size v n xs) (hk : ∀ k, v.ownBlock = some k → w'.heap[k]? = w.heap[k]?) : w'.ownsRow base e size v n xs := by
  refine ⟨h.1, ?_⟩
  rcases h.2 with h1 | ⟨g, cap, cur, rfl, h1, h2, h3⟩
  · exact .inl h1
  · exact .inr ⟨g, cap, cur, rfl, h1, (hk g rfl).trans h2, h3⟩
theorem StAt.mk' {w : World} {base Bs : Nat} {most : Int} {v : Value} {l : List Mo} {S : List (Int × List Int)} (h1 : w.heap[Bs]? = some (.cells #[.int .i64 most, v] 103 (0, 0))) (h2 : base ≤ Bs) (h3 : ownO w base v l) (h4 : Prs w base l S) : StAt w base Bs most v l S :=
  ⟨h1, h2, h3, h4.len, fun i hi hi2 => (h4.at_ i hi hi2).1, fun i hi hi2 => (h4.at_ i hi hi2).2⟩
theorem StAt.lt {w : World} {base Bs : Nat} {most : Int} {v : Value} {l : List Mo} {S : List (Int × List Int)} (h : StAt w base Bs most v l S) : Bs < w.heap.size := (Array.getElem?_eq_some_iff.1 h.at_).1
/-- What leaves all that there was leaves the store. -/
theorem StAt.same {w w' : World} {base Bs : Nat} {most : Int} {v : Value} {l : List Mo} {S : List (Int × List Int)} (h : StAt w base Bs most v l S) (hb : ∀ k, k < w.heap.size → w'.heap[k]? = w.heap[k]?) : StAt w' base Bs most v l S := by
  have ho : ∀ {e : TypeId} {size n : Nat} {u : Value} {xs : List Value}, w.ownsRow base e size u n xs → w'.ownsRow base e size u n xs := fun h => own_same h fun k hk => by
    obtain ⟨_, cur, hc⟩ := own_blk h k hk
    exact hb k (Array.getElem?_eq_some_iff.1 hc).1
  exact StAt.mk' ((hb Bs h.lt).trans h.at_) h.lb (ho h.row) (h.prs.map fun p b => ho)
theorem StAt.later {w w' : World} {base Bs : Nat} {most : Int} {v : Value} {l : List Mo} {S : List (Int × List Int)} (h : StAt w base Bs most v l S) (hb : Below w.heap.size w w') : StAt w' base Bs most v l S := h.same hb.block

theorem cells_ne {c c' : Array Value} {t t' : TypeId} {f f' : Nat × Nat} (h : t ≠ t') : Obj.cells c t f ≠ Obj.cells c' t' f' := fun e => by cases e; exact h rfl
theorem blk_ne {w : World} {i j : Nat} {o o' : Obj} (h1 : w.heap[i]? = some o) (h2 : w.heap[j]? = some o') (h : o ≠ o') : i ≠ j := fun e => by subst e; rw [h1] at h2; exact h (Option.some.inj h2)

/-- The row has turned, and is laid back into the store. -/
theorem StAt.turn {w w' : World} {base Bs : Nat} {most : Int} {v v' : Value} {l l' : List Mo} {S S' : List (Int × List Int)} (h : StAt w base Bs most v l S) (hg : w.grownBy w' v.ownBlock) (hown : ownO w' base v' l') (hp : Prs w base l' S') :
    (w'.cell? ⟨Bs, 0, none⟩ = some (.int .i64 most) ∧ w'.cell? ⟨Bs, 1, none⟩ = some v ∧ w'.frozen? ⟨Bs, 1, none⟩ = false) ∧ StAt (w'.setCell ⟨Bs, 1, none⟩ v') base Bs most v' l' S' ∧ KeepS w (w'.setCell ⟨Bs, 1, none⟩ v') := by
  have hrow : ∀ k, v.ownBlock = some k → ∃ cur, w.heap[k]? = some (.cells cur 132 (0, 0)) := fun k hk => (own_blk h.row k hk).2
  have hkeep : ∀ {k : Nat} {o : Obj}, w.heap[k]? = some o → (∀ c f, o ≠ .cells c 132 f) → w'.heap[k]? = some o := fun {k o} hk ho => by
    rw [hg.block k (Array.getElem?_eq_some_iff.1 hk).1 (fun e => by
      obtain ⟨cur, hc⟩ := hrow k e.symm
      rw [hk] at hc; cases hc; exact ho _ _ rfl)]
    exact hk
  have hB := hkeep h.at_ (fun c f => cells_ne (by decide))
  have hset : ∀ {k : Nat} {c : Array Value} {t : TypeId} {f : Nat × Nat}, w'.heap[k]? = some (.cells c t f) → t ≠ 103 → (w'.setCell ⟨Bs, 1, none⟩ v').heap[k]? = w'.heap[k]? := fun {k c t f} hk ht => Below.heap_setCell _ _ _ _ (blk_ne hk hB (cells_ne ht))
  refine ⟨⟨by simp [World.cell?, hB], by simp [World.cell?, hB], by simp [World.frozen?, hB]⟩, StAt.mk' (by simp [World.setCell, Array.getElem?_modify, hB]) h.lb (own_same hown fun k hk => ?_) (hp.map fun p b hpb => own_same hpb fun k hk => ?_), fun k o hk ha hb => ?_⟩
  · obtain ⟨_, cur, hc⟩ := own_blk hown k hk
    exact hset hc (by decide)
  · obtain ⟨_, cur, hc⟩ := own_blk hpb k hk
    have h1 := hkeep hc (fun c f => cells_ne (by decide))
    rw [hset h1 (by decide), h1, hc]
  · have h1 := hkeep hk ha
    rw [← h1]
    exact Below.heap_setCell _ _ _ _ (fun e => by rw [e] at h1; rw [hB] at h1; exact hb _ _ (Option.some.inj h1).symm)
/-- Where the moments' bytes lie behind a call: where they lay, or in new memory. -/
def fromL (w : World) (l l' : List Mo) : Prop := ∀ m ∈ l', m ∈ l ∨ ∀ k, m.2.ownBlock = some k → w.heap.size ≤ k
theorem mem_set {l : List Mo} {i : Nat} {u m : Mo} (h : m ∈ l.set i u) : m ∈ l ∨ m = u := by
  rcases List.mem_or_eq_of_mem_set h with h | h
  · exact .inl h
  · exact .inr h
/-- What a call leaves that turns one store: every other block. -/
def KeepX (w w' : World) (Bs : Nat) (v : Value) : Prop := ∀ k, k < w.heap.size → k ≠ Bs → v.ownBlock ≠ some k → w'.heap[k]? = w.heap[k]?
theorem KeepX.of_below {w w' : World} {Bs : Nat} {v : Value} (h : Below w.heap.size w w') : KeepX w w' Bs v := fun k hk _ _ => h.block k hk
theorem KeepX.trans {w w' w'' : World} {Bs : Nat} {v v2 : Value} (h1 : KeepX w w' Bs v) (h2 : KeepX w' w'' Bs v2) (hs : w.heap.size ≤ w'.heap.size) (hv : v2.ownBlock = v.ownBlock) : KeepX w w'' Bs v := fun k hk ha hb => (h2 k (by omega) ha (by rw [hv]; exact hb)).trans (h1 k hk ha hb)
theorem KeepX.of_grown {w w' : World} {Bs : Nat} {v : Value} (h : w.grownBy w' v.ownBlock) : KeepX w w' Bs v := fun k hk _ hb => h.block k hk (fun e => hb e.symm)
theorem KeepX.setCell {w w' : World} {Bs i : Nat} {v u : Value} (h : KeepX w w' Bs v) : KeepX w (w'.setCell ⟨Bs, i, none⟩ u) Bs v := fun k hk ha hb => by
  rw [Below.heap_setCell _ _ _ _ ha]
  exact h k hk ha hb
end Go.Proofs.Ytgjmdcbdkdmceaa

/- Keep: Drop, Best. -/
namespace Go.Proofs.Ytgjmdcbdkdmceaa
open Go.RowKit

theorem not_has {l : List Mo} {x : Int} {i : Nat} (hf : FindAt l x i) (hb : hasAt l i x = false) (hr : Rising l) : ∀ k, (hk : k < l.length) → l[k].1 ≠ x := fun k hk e => by
  by_cases h1 : k < i
  · have := hf.lo k hk h1; omega
  · by_cases h2 : k = i
    · subst h2
      unfold hasAt at hb
      rw [List.getElem?_eq_getElem hk] at hb
      simp at hb
      exact hb e
    · have h3 := hr i k (by omega) hk (by omega)
      have h4 := hf.hi i (by omega) (Nat.le_refl _)
      omega
theorem has_at {l : List Mo} {x : Int} {i : Nat} (hb : hasAt l i x = true) : ∃ h : i < l.length, l[i].1 = x := by
  unfold hasAt at hb
  cases h : l[i]? with
  | none => rw [h] at hb; cases hb
  | some m =>
    rw [h] at hb
    obtain ⟨hi, e⟩ := List.getElem?_eq_some_iff.1 h
    exact ⟨hi, by rw [e]; simpa using hb⟩

set_option maxHeartbeats 4000000 in
theorem drop_any (x : Int) (w : World) (base Bs : Nat) (most : Int) (v : Value) (l : List Mo) (S : List (Int × List Int)) (h : StAt w base Bs most v l S) (hR : RisS S) (hl : l.length ≤ 1000) (hbase : base ≤ w.heap.size) :
    Calls Try.prog 47 #[.pointer (some ⟨Bs, 0, none⟩), .int .i64 x] w fun e w' =>
      ((∀ k, (hk : k < S.length) → S[k].1 ≠ x) ∧ e = .returned (.int .i64 14) ∧ Below w.heap.size w w') ∨
      ∃ (i : Nat) (v' : Value) (l' : List Mo), (∃ hi : i < S.length, S[i].1 = x) ∧ e = .returned (.int .i64 0) ∧ StAt w' base Bs most v' l' (S.eraseIdx i) ∧ Below base w w' ∧ KeepS w w' ∧ fromL w l l' := by
  have HF := Lib.hid (find_any x w base Bs most v l S h hR hl)
  have HS := Lib.hid h
  have HRi := Lib.hid (h.rising hR)
  clear h hR
  go_enter Try.func47, Try.ntmps47
  go_wp2_with fail
  refine HF.out.mono ?_
  rintro e w1 ⟨i, rfl, hf, hb⟩
  have HB := Lib.hid hb
  have HFi := Lib.hid hf
  have HS1 := Lib.hid (HS.out.later hb)
  clear hf hb HF
  cases hh : hasAt l i x with
  | false =>
    have HN := Lib.hid (not_has HFi.out hh HRi.out)
    clear hh
    go_wp2_with fail
    go_ret
    refine .inl ⟨fun k hk => ?_, rfl, HB.out⟩
    have e := HS.out.len
    rw [← HS.out.ats k (by omega) hk]
    exact HN.out k (by omega)
  | true =>
    obtain ⟨hil, hix⟩ := has_at hh
    have HX := Lib.hid hix
    clear hh hix
    rcases HS1.out.row.2 with ⟨h1, h2⟩ | ⟨g, c, cur, rfl, h2, h3, h4, h5, h6, h7⟩
    · omega
    · have HD := Lib.hid (delete_any g c i base l w1 HS1.out.row hil hl HS1.out.sl)
      have c2 : w1.cell? ⟨Bs, 1, none⟩ = some (.slice (some ⟨g, 0, none⟩) l.length c) := by simp [World.cell?, HS1.out.at_]
      have hlt1 := HS1.out.lt
      clear h2 h3 h4 h5 h6 h7
      go_wp2_with fail
      refine HD.out.mono ?_
      rintro e w2 ⟨l', hl', rfl, hown, hgrow⟩
      obtain ⟨⟨f1, f2, f3⟩, hst, hks⟩ := HS1.out.turn hgrow hown (S' := S.eraseIdx i) (by
        rw [hl']
        exact HS1.out.prs.erase i)
      have HE : Hid (StAt _ _ _ _ _ _ _ ∧ KeepS _ _) := ⟨hst, hks⟩
      have hlt2 : Bs < w2.heap.size := Nat.lt_of_lt_of_le hlt1 hgrow.size
      have HB2 : Hid (Below base w w2) := (HB.out.mono hbase).grown hgrow (Nat.le_trans hbase HB.out.size) (fun k hk => (own_blk HS1.out.row k hk).1)
      have HFL : Hid (fromL w l l') := fun m hm => .inl ((List.eraseIdx_sublist l i).subset (by rw [← hl']; exact hm))
      clear hst hks hown hgrow hl' HD
      go_wp2_with fail
      go_ret
      refine .inr ⟨i, _, l', ⟨by have := HS.out.len; omega, ?_⟩, rfl, HE.out.1, HB2.out.setCell HS1.out.lb _, (KeepS.of_below HB.out).trans HE.out.2, HFL.out⟩
      rw [← HS.out.ats i hil (by have := HS.out.len; omega)]
      exact HX.out
end Go.Proofs.Ytgjmdcbdkdmceaa
