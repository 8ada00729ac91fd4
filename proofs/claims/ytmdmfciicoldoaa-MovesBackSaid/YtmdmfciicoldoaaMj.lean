/- A queue in memory; and the memory of the program's ordering. -/
import Derived.Test.YtmdmfciicoldoaaMi
import Derived.Deep.AppendSrc
namespace Go.Proofs.Ytmdmfciicoldoaa
open Go.RowKit Go.Maps

theorem infoI : (Try.prog.info? 3).map (fun i => (i.zero, i.size, i.bytes)) = some (some (.int .i64 0), 1, 8) := by kernel_rfl

/-- A slice of the call's own that may begin anywhere in its block. -/
def Que (w : World) (base : Nat) (v : Value) (xs : List Int) : Prop :=
  (v = .slice none 0 0 ∧ xs = []) ∨ ∃ g off cap cur, v = .slice (some ⟨g, off, none⟩) xs.length cap ∧ base ≤ g ∧ w.heap[g]? = some (.cells cur 3 (0, 0)) ∧ xs.length ≤ cap ∧ cap ≤ maxLen ∧ off + cap ≤ cur.size ∧ ∀ j, (h : j < xs.length) → cur[off + j]? = some (.int .i64 xs[j])

theorem Que.nil (w : World) (base : Nat) : Que w base (.slice none 0 0) [] := .inl ⟨rfl, rfl⟩
theorem Que.shape {w : World} {base : Nat} {v : Value} {xs : List Int} (h : Que w base v xs) : ∃ a c, v = .slice a xs.length c ∧ c ≤ 9223372036854775807 ∧ xs.length ≤ c := by
  rcases h with ⟨rfl, rfl⟩ | ⟨g, off, cap, cur, rfl, _, _, h1, h2, _⟩
  · exact ⟨_, _, rfl, by omega, Nat.le_refl _⟩
  · exact ⟨_, _, rfl, by unfold maxLen at h2; omega, h1⟩
theorem Que.lt {w : World} {base : Nat} {v : Value} {xs : List Int} (h : Que w base v xs) : ∀ k, v.ownBlock = some k → base ≤ k ∧ ∃ cur, w.heap[k]? = some (.cells cur 3 (0, 0)) := by
  intro k hk
  rcases h with ⟨rfl, rfl⟩ | ⟨g, off, cap, cur, rfl, h1, h2, _⟩
  · cases hk
  · simp [Value.ownBlock] at hk; subst hk
    exact ⟨h1, cur, h2⟩
theorem Que.kept {w w' : World} {base : Nat} {v : Value} {xs : List Int} (h : Que w base v xs) (hk : ∀ k, v.ownBlock = some k → w'.heap[k]? = w.heap[k]?) : Que w' base v xs := by
  rcases h with ⟨rfl, rfl⟩ | ⟨g, off, cap, cur, rfl, h1, h2, h3⟩
  · exact .inl ⟨rfl, rfl⟩
  · exact .inr ⟨g, off, cap, cur, rfl, h1, (hk g rfl).trans h2, h3⟩
theorem Que.head {w : World} {base : Nat} {v : Value} {x : Int} {r : List Int} (h : Que w base v (x :: r)) : ∃ g off c, v = .slice (some ⟨g, off, none⟩) (r.length + 1) c ∧ w.cell? ⟨g, off, none⟩ = some (.int .i64 x) := by
  rcases h with ⟨_, h⟩ | ⟨g, off, cap, cur, rfl, _, h2, _, _, _, h6⟩
  · cases h
  · refine ⟨g, off, cap, rfl, ?_⟩
    have := h6 0 (by simp)
    simp [World.cell?, h2] at this ⊢
    exact this
theorem Que.tail {w : World} {base : Nat} {g off c : Nat} {x : Int} {r : List Int} (h : Que w base (.slice (some ⟨g, off, none⟩) (r.length + 1) c) (x :: r)) :
    Que w base (.slice (if c = 1 then some ⟨g, off, none⟩ else (some (⟨g, off, none⟩ : Addr)).map (·.add (1 * 1))) (r.length + 1 - 1) (c - 1)) r := by
  rcases h with ⟨h, _⟩ | ⟨g', off', cap, cur, hv, h1, h2, h3, h4, h5, h6⟩
  · cases h
  · cases hv
    simp only [List.length_cons] at h3
    right
    by_cases hc : c = 1
    · have hr : r = [] := List.eq_nil_of_length_eq_zero (by omega)
      subst hr
      rw [if_pos hc]
      exact ⟨g, off, c - 1, cur, by simp, h1, h2, by simp, by omega, by omega, fun j h => by simp at h⟩
    · rw [if_neg hc]
      refine ⟨g, off + 1, c - 1, cur, ?_, h1, h2, by omega, by omega, by omega, fun j hj => ?_⟩
      · simp [add_plain]
      · have := h6 (j + 1) (by simpa using hj)
        simp only [List.getElem_cons_succ] at this
        rw [← this]; congr 1; omega

theorem Que.append {w : World} {base : Nat} {v : Value} {xs : List Int} (h : Que w base v xs) (x : Int) (B c : Nat) (hB : w.cell? ⟨B, 0, none⟩ = some (.int .i64 x)) (hbase : base ≤ w.heap.size) (hlen : xs.length + 1 ≤ 1000000) (ty : TypeId) :
    ∃ v' w', (Builtin.append_ #[41, 41] ty #[v, .slice (some ⟨B, 0, none⟩) 1 c]).run Try.prog w = .ok v' w' ∧ Que w' base v' (xs ++ [x]) ∧ w.grownBy w' v.ownBlock := by
  obtain ⟨i, hi, hz, hs, hb⟩ := info_parts infoI
  have hnews : ∀ j u, [Value.int .i64 x][j]? = some u → w.cell? ((⟨B, 0, none⟩ : Addr).add j) = some u := fun j u hu => by
    have hj : j = 0 := by
      rcases j with _ | j
      · rfl
      · simp at hu
    subst hj
    simp at hu; subst hu
    exact hB
  have hone : ∀ u ∈ [Value.int .i64 x], u.oneCell' = true := by simp [Value.oneCell']
  have hsrc := Src.ofSlice (P := Try.prog) w (size := i.size) Try.underlying41 ⟨B, 0, none⟩ 1 c [.int .i64 x] (by rw [hs]; rfl) hnews hone
  have grown : ∀ (olds : List Value) (old : Nat), olds = xs.map (Value.int .i64) → old < xs.length + 1 →
      Que (w.drew.alloc (.cells ((olds ++ [Value.int .i64 x]).toArray ++ Builtin.zeroCells (Value.int .i64 0).cells (grownCap w (xs.length + 1) old 3 - (xs.length + 1))) 3)) base (.slice (some ⟨w.heap.size, 0, none⟩) (xs.length + 1) (grownCap w (xs.length + 1) old 3)) (xs ++ [x]) := fun olds old ho hlt => by
    subst ho
    have hge := grownCap_ge w (xs.length + 1) old 3
    have hcm := grownCap_le_maxLen w (xs.length + 1) old 3 (by unfold maxLen; omega)
    refine .inr ⟨w.heap.size, 0, _, _, by simp, hbase, heap_alloc_new w.drew _, by simpa using hge, hcm, ?_, fun j hj => ?_⟩
    · simp only [Array.size_append, List.size_toArray, size_zeroCells, List.length_append, List.length_map, List.length_cons, List.length_nil]
      have : (Value.int IntKind.i64 0).cells.size = 1 := rfl
      rw [this]; omega
    · have hj2 : j < xs.length + 1 := by simpa using hj
      have e : xs.map (Value.int .i64) ++ [Value.int .i64 x] = (xs ++ [x]).map (Value.int .i64) := by simp
      rw [Nat.zero_add, e, Array.getElem?_append_left (by simpa using hj2), List.getElem?_toArray, List.getElem?_map, List.getElem?_eq_getElem hj]
      rfl
  rcases h with ⟨rfl, rfl⟩ | ⟨g, off, cap, cur, rfl, h1, h2, h3, h4, h5, h6⟩
  · have hr := run_append_grow_src (P := Try.prog) w 41 41 ty 3 i (Value.int .i64 0) Try.underlying41 hi hz none 0 0 [] (run_firstCells_none w.drew i.size 0 0 0) (.slice (some ⟨B, 0, none⟩) 1 c) 1 [.int .i64 x] hsrc (by omega) (by omega) (by rw [hb]; decide)
    exact ⟨_, _, hr, grown [] 0 rfl (by simp), ⟨rfl, rfl, rfl, by simp, fun k hk _ => heap_alloc_old w.drew _ hk⟩⟩
  · have hlt : g < w.heap.size := (Array.getElem?_eq_some_iff.1 h2).1
    by_cases hroom : xs.length + 1 ≤ cap
    · have hr := run_append_room_src (P := Try.prog) w 41 41 ty 3 i Try.underlying41 hi g off xs.length cap (.slice (some ⟨B, 0, none⟩) 1 c) 1 [.int .i64 x] hsrc hroom
        (fun j hj => by
          have hj : j = 0 := by simpa using hj
          subst hj
          rw [hs]
          have : off + xs.length * 1 + 0 < cur.size := by omega
          simp only [World.cell?, h2]
          simp [Array.getElem?_eq_getElem (show off + xs.length < cur.size by omega)])
        (fun j hj => by simp [World.frozen?, h2])
      rw [hs] at hr
      refine ⟨_, _, hr, .inr ⟨g, off, cap, cur.setIfInBounds (off + xs.length) (.int .i64 x), by simp, h1, ?_, by simpa using hroom, h4, by simpa using h5, fun j hj => ?_⟩, ?_⟩
      · simp [World.setCells, World.setCell, Array.getElem?_modify, h2]
      · have hj2 : j < xs.length + 1 := by simpa using hj
        rw [Array.getElem?_setIfInBounds]
        by_cases e : j = xs.length
        · subst e
          rw [if_pos rfl, if_pos (by omega)]
          simp
        · rw [if_neg (by omega), h6 j (by omega)]
          rw [List.getElem_append_left (by omega)]
      · refine ⟨rfl, rfl, rfl, by simp [World.setCells], fun k hk hne => ?_⟩
        have hkg : k ≠ g := fun e => hne (by simp [Value.ownBlock, e])
        simp only [World.setCells]
        exact Below.heap_setCell _ _ _ _ hkg
    · have holds : (Builtin.firstCells i.size xs.length (.slice (some ⟨g, off, none⟩) xs.length cap)).run Try.prog w.drew = .ok (xs.map (Value.int .i64)).toArray w.drew :=
        run_firstCells_some w.drew i.size xs.length ⟨g, off, none⟩ xs.length cap _ (by rw [hs]; simp) (fun j u hu => by
          rw [List.getElem?_map] at hu
          obtain ⟨y, hy, rfl⟩ := Option.map_eq_some_iff.1 hu
          obtain ⟨hj, rfl⟩ := List.getElem?_eq_some_iff.1 hy
          rw [add_plain]
          have := h6 j hj
          show w.cell? ⟨g, off + j, none⟩ = _
          simp only [World.cell?, h2]
          simpa using this)
      have hr := run_append_grow_src (P := Try.prog) w 41 41 ty 3 i (Value.int .i64 0) Try.underlying41 hi hz (some ⟨g, off, none⟩) xs.length cap _ holds (.slice (some ⟨B, 0, none⟩) 1 c) 1 [.int .i64 x] hsrc (by omega) (by omega) (by rw [hb]; exact growslice_fits (by omega) (by omega))
      exact ⟨_, _, hr, grown _ cap rfl (by omega), ⟨rfl, rfl, rfl, by simp, fun k hk _ => heap_alloc_old w.drew _ hk⟩⟩

/-- Append one number to the queue, at the operation. -/
theorem wp_que {w : World} {ops : Array Oper} {rest : List Oper} {o : Oper} {a : Act} {Q : Exit → Act → World → Prop} (hg : o.guard = none) (s x : Operand)
    (hop : o.op = .call { callee := .builtin .append, args := #[s, x], argTypes := #[41, 41] }) (base : Nat) (v : Value) (xs : List Int) (hs : a.eval s = v) (h : Que w base v xs) (y : Int) (B : Nat) (hx : a.eval x = .slice (some ⟨B, 0, none⟩) 1 1) (hB : w.cell? ⟨B, 0, none⟩ = some (.int .i64 y)) (hbase : base ≤ w.heap.size) (hlen : xs.length + 1 ≤ 1000000)
    (hK : ∀ a' c' w', Que w' base (.slice a' (xs.length + 1) c') (xs ++ [y]) → w.grownBy w' v.ownBlock → wpList Try.prog ops Q rest (a.put o.dst (.slice a' (xs.length + 1) c')) w') : wpList Try.prog ops Q (o :: rest) a w := by
  refine wpList_plain hg fun K' hK' => ?_
  obtain ⟨v', w', hrun, h1, h2⟩ := h.append y B 1 hB hbase hlen o.type
  obtain ⟨a', c', rfl, _⟩ := h1.shape
  rw [List.length_append, List.length_singleton] at hrun h1
  unfold Oper.wp
  simp [execOp, hop, resolve, invoke, builtin, hs, hx, hrun, Result.andThen]
  exact hK' _ _ (hK a' c' w' h1 h2)
end Go.Proofs.Ytmdmfciicoldoaa
