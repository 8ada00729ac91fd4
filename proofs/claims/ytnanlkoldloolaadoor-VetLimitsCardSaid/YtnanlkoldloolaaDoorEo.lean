/- Vet: what the law's images are; the document's examples. -/
import Derived.Test.YtnanlkoldloolaaDoorEn
import Derived.Test.YtnanlkoldloolaaDoorNc
namespace Go.Proofs.YtnanlkoldloolaaDoor
open Go.RowKit

/-! ### the plain law of 'CheckIs' -/
theorem entries_good {nw : Nat} {l : List (Int × Int)} {most a e : Int} (h : EntriesIs nw l most a e) (hall : ∀ x ∈ l, entBad nw x = false) : most = mostE l ∧ a = 0 ∧ e = 0 := by
  rcases h with ⟨j, hj, hb, _⟩ | ⟨_, h1, h2, h3⟩
  · rw [hall _ (List.getElem_mem hj)] at hb; cases hb
  · exact ⟨h1, h2, h3⟩
theorem words_good {nw ne s : Int} {l : List W} {a e : Int} (h : WordsIs nw ne s l a e) (hall : ∀ x ∈ l, wordE nw ne s x = 0) (h0 : 0 < l.length) (hlast : (l[l.length - 1]'(by omega)).op = 45 ∨ (l[l.length - 1]'(by omega)).op = 47) : a = 0 ∧ e = 0 := by
  rcases h with ⟨j, hj, hb, _⟩ | ⟨_, _, h2⟩
  · exact absurd (hall _ (List.getElem_mem hj)) hb
  · rw [if_pos hlast] at h2; exact h2
theorem words_bad {nw ne s : Int} {l : List W} {a e : Int} (h : WordsIs nw ne s l a e) {k : Nat} (hk : k < l.length) (hall : ∀ i (hi : i < l.length), i < k → wordE nw ne s l[i] = 0) (hb : wordE nw ne s l[k] ≠ 0) : a = k ∧ e = wordE nw ne s l[k] := by
  rcases h with ⟨j, hj, h1, h2, h3, h4⟩ | ⟨h1, _⟩
  · have : j = k := by
      rcases Nat.lt_trichotomy j k with h | h | h
      · exact absurd (hall j hj h) h1
      · exact h
      · exact absurd (h2 k hk h) hb
    subst this
    exact ⟨h3, h4⟩
  · exact absurd (h1 _ (List.getElem_mem hk)) hb
theorem debug_good {l : List W} {a e : Int} (h : DebugIs l 0 [] a e) (hall : ∀ x ∈ l, x.op ≠ 44 ∧ trapsB x.op = false) : a = 0 ∧ e = 0 := by
  rcases h with ⟨j, hj, h1, _⟩ | ⟨_, ⟨j, hj, _⟩ | ⟨_, ⟨j, hj, h1, _⟩ | ⟨_, h1, h2⟩⟩⟩
  · have := (hall _ (List.getElem_mem hj)).1
    simp [markBad, this] at h1
  · simp at hj
  · have := (hall _ (List.getElem_mem hj)).2
    simp [unsited, this] at h1
  · exact ⟨h1, h2⟩

abbrev GoodNone (er : Int) (mn : Nat) (sl : List (Int × Int)) : Prop := er = 0 ∧ mn = 0 ∧ sl = []
theorem check_good {l : List W} {el : List (Int × Int)} {m a e : Int} (h : CheckIs l el m GoodNone a e) (hl : 0 < l.length ∧ l.length ≤ 262144) (hm : 0 ≤ m ∧ m < el.length)
    (he : ∀ x ∈ el, entBad l.length x = false) (hw : ∀ x ∈ l, wordE l.length el.length (mostE el) x = 0) (hlast : (l[l.length - 1]'(by omega)).op = 45 ∨ (l[l.length - 1]'(by omega)).op = 47)
    (hq : ∀ x ∈ l, x.op ≠ 44 ∧ trapsB x.op = false) : a = 0 ∧ e = 0 := by
  rcases h with ⟨h, _⟩ | ⟨_, ⟨h, _⟩ | ⟨_, most, a1, e1, h1, h2⟩⟩
  · omega
  · omega
  · obtain ⟨rfl, -, rfl⟩ := entries_good h1 he
    rcases h2 with ⟨h, _⟩ | ⟨_, a2, e2, h3, h4⟩
    · exact absurd rfl h
    · obtain ⟨rfl, rfl⟩ := words_good h3 hw hl.1 hlast
      rcases h4 with ⟨h, _⟩ | ⟨_, de, mn, sl, ⟨rfl, rfl, rfl⟩, ⟨h, _⟩ | ⟨_, h5⟩⟩
      · exact absurd rfl h
      · exact absurd rfl h
      · exact debug_good h5 hq
theorem check_word {l : List W} {el : List (Int × Int)} {m a e : Int} {Good : Int → Nat → List (Int × Int) → Prop} (h : CheckIs l el m Good a e) (hl : 0 < l.length ∧ l.length ≤ 262144) (hm : 0 ≤ m ∧ m < el.length)
    (he : ∀ x ∈ el, entBad l.length x = false) {k : Nat} (hk : k < l.length) (hw : ∀ i (hi : i < l.length), i < k → wordE l.length el.length (mostE el) l[i] = 0) (hb : wordE l.length el.length (mostE el) l[k] ≠ 0) : a = k ∧ e = wordE l.length el.length (mostE el) l[k] := by
  rcases h with ⟨h, _⟩ | ⟨_, ⟨h, _⟩ | ⟨_, most, a1, e1, h1, h2⟩⟩
  · omega
  · omega
  · obtain ⟨rfl, -, rfl⟩ := entries_good h1 he
    rcases h2 with ⟨h, _⟩ | ⟨_, a2, e2, h3, h4⟩
    · exact absurd rfl h
    · obtain ⟨rfl, rfl⟩ := words_bad h3 hk hw hb
      rcases h4 with ⟨_, h5, h6⟩ | ⟨h, _⟩
      · exact ⟨h5, h6⟩
      · exact absurd h hb

theorem gives_below {w w' : World} {gt : TypeId} {gv : Value} (h : Gives w gt gv) (hb : Below w.heap.size w w') : Gives w' gt gv := by
  unfold Gives
  rw [hb.cell (p := ⟨0, 0, none⟩) (World.block_lt_of_cell? w _ h)]; exact h

/-- Decode at the bytes of nothing, as 'Check' asks it. -/
theorem decode_none {w : World} {pa : Option Addr} {pc : Nat} (hp : RdB w (.slice pa 7 pc) nothL) {gt : TypeId} {gv : Value} (hg : Gives w gt gv) : ∀ W : World, Below w.heap.size w W → Calls Tryd.prog 27 #[.slice pa 7 pc] W fun e w' => (∃ sa sn sc ma mn mc tv sl er, e = .returned (.tuple #[.agg #[.slice sa sn sc, .slice ma mn mc, tv], .int .i64 er]) ∧ RdE w' tv sl ∧ GoodNone er mn sl) ∧ Below W.heap.size W w' := by
  intro W hW
  refine (decode_empty pa pc W (Rd.later hp hW) gt gv ?_).mono ?_
  · unfold Gives
    rw [hW.cell (p := ⟨0, 0, none⟩) (World.block_lt_of_cell? w _ hg)]; exact hg
  · rintro e w' ⟨rfl, hb⟩
    exact ⟨⟨_, _, _, _, _, _, _, _, _, rfl, (show RdE w' (.slice none 0 0) [] from Rd.nil _ _), rfl, rfl, rfl⟩, hb⟩

abbrev littleL : List W := [⟨30, 0, 0, 0, 7⟩, ⟨47, 0, 0, 0, 0⟩]

set_option maxRecDepth 100000 in
set_option maxHeartbeats 4000000 in
theorem little_any (w : World) :
   Calls Tryd.prog 16 #[] w fun e w' => (∃ wb eb pa pc, e = .returned (.agg #[.slice (some ⟨wb, 0, none⟩) 2 2, .slice (some ⟨eb, 0, none⟩) 1 1, .int .i64 0, .slice pa 7 pc]) ∧ RdW w' (.slice (some ⟨wb, 0, none⟩) 2 2) littleL ∧ RdE w' (.slice (some ⟨eb, 0, none⟩) 1 1) [(0, 0)] ∧ RdB w' (.slice pa 7 pc) nothL) ∧ Below w.heap.size w w' := by
  have HE := Lib.hid encode_empty
  go_enter Tryd.func16, Tryd.ntmps16
  go_wp2_with fail
  obtain ⟨W, hW⟩ : ∃ W, W = (((w.alloc (.cells #[.slice none 0 0, .slice none 0 0, .int .i64 0, .slice none 0 0] 26)).alloc (.cells #[.int .u8 30, .int .u8 0, .int .u8 0, .int .u8 0, .int .i64 7, .int .u8 47, .int .u8 0, .int .u8 0, .int .u8 0, .int .i64 0] 47)).alloc (.cells #[.int .i64 0, .int .i64 0] 55)) := ⟨_, rfl⟩
  have HW := Lib.hid hW
  rw [← hW]
  refine (HE.out W).mono ?_
  rintro e w1 ⟨⟨v, rfl, hv⟩, hb⟩
  obtain ⟨va, vc, rfl⟩ := hv.rd.shape
  have hz : W.heap.size = w.heap.size + 1 + 1 + 1 := by rw [hW]; simp
  have h0 : w1.heap[w.heap.size]? = some (.cells #[.slice none 0 0, .slice none 0 0, .int .i64 0, .slice none 0 0] 26) := heap_below hb (by omega) (by rw [hW]; exact heap_old _ _ (heap_old _ _ (heap_new _ _ rfl)))
  have h1 : w1.heap[w.heap.size + 1]? = some (.cells #[.int .u8 30, .int .u8 0, .int .u8 0, .int .u8 0, .int .i64 7, .int .u8 47, .int .u8 0, .int .u8 0, .int .u8 0, .int .i64 0] 47) := heap_below hb (by omega) (by rw [hW]; exact heap_old _ _ (heap_new _ _ (by simp)))
  have h2 : w1.heap[w.heap.size + 1 + 1]? = some (.cells #[.int .i64 0, .int .i64 0] 55) := heap_below hb (by omega) (by rw [hW]; exact heap_new _ _ (by simp))
  have HB : Hid (Below w.heap.size w w1) := by
    refine Below.trans ?_ (hb.mono (by omega))
    rw [hW]
    exact (((Below.refl _ _).alloc (Nat.le_refl _) _).alloc (by simp) _).alloc (by simp; omega) _
  have c0 : w1.cell? ⟨w.heap.size, 0, none⟩ = some (.slice none 0 0) := by simp [World.cell?, h0]
  have c1 : w1.cell? ⟨w.heap.size, 1, none⟩ = some (.slice none 0 0) := by simp [World.cell?, h0]
  have c2 : w1.cell? ⟨w.heap.size, 2, none⟩ = some (.int .i64 0) := by simp [World.cell?, h0]
  have c3 : w1.cell? ⟨w.heap.size, 3, none⟩ = some (.slice none 0 0) := by simp [World.cell?, h0]
  have z0 : ∀ i, w1.frozen? ⟨w.heap.size, i, none⟩ = false := by intro i; simp [World.frozen?, h0]
  have HV := Lib.hid hv
  have H1 := Lib.hid h1
  have H2 := Lib.hid h2
  clear hW hb hv h0 h1 h2 HE hz
  go_wp2_with fail
  refine bodyPost_ret (v := .agg #[.slice (some ⟨w.heap.size + 1, 0, none⟩) 2 2, .slice (some ⟨w.heap.size + 1 + 1, 0, none⟩) 1 1, .int .i64 0, .slice va 7 vc]) ?_ rfl ⟨⟨_, _, _, _, rfl, ?_, ?_, ?_⟩, ?_⟩
  · simp [results, Tryd.results16, go_sem, c0, c1, c2, c3, z0]
  · exact Rd.of_heap (xs := cW littleL) (((Below.heap_setCell _ _ _ _ (by simp)).trans ((Below.heap_setCell _ _ _ _ (by simp)).trans ((Below.heap_setCell _ _ _ _ (by simp)).trans (Below.heap_setCell _ _ _ _ (by simp))))).trans H1.out) rfl rfl (by unfold maxLen; simp)
  · exact Rd.of_heap (xs := cE [(0, 0)]) (((Below.heap_setCell _ _ _ _ (by simp; omega)).trans ((Below.heap_setCell _ _ _ _ (by simp; omega)).trans ((Below.heap_setCell _ _ _ _ (by simp; omega)).trans (Below.heap_setCell _ _ _ _ (by simp; omega))))).trans H2.out) rfl rfl (by unfold maxLen; simp)
  · have hne : (Value.slice va 7 vc).ownBlock ≠ some w.heap.size := fun h => by
      have := (ownG_blk HV.out _ h).1
      rw [HW.out] at this
      simp at this
      omega
    exact Rd.same HV.out.rd (fun k hk => by
      have hk2 : k ≠ w.heap.size := fun e => hne (by rw [← e]; exact hk)
      exact (Below.heap_setCell _ _ _ _ hk2).trans ((Below.heap_setCell _ _ _ _ hk2).trans ((Below.heap_setCell _ _ _ _ hk2).trans (Below.heap_setCell _ _ _ _ hk2))))
  · exact (((HB.out.setCell (Nat.le_refl _) _).setCell (Nat.le_refl _) _).setCell (Nat.le_refl _) _).setCell (by simp) _

theorem little_good : ∀ a e, CheckIs littleL [(0, 0)] 0 GoodNone a e → a = 0 ∧ e = 0 := fun a e h =>
  check_good h (by decide) (by decide) (by decide) (by decide) (by decide) (by decide)
theorem jump_bad : ∀ a e, CheckIs [⟨30, 0, 0, 0, 7⟩, ⟨45, 0, 0, 0, 9⟩, ⟨47, 0, 0, 0, 0⟩] [(0, 0)] 0 GoodNone a e → a = 1 ∧ e = 17 := fun a e h => by
  have := check_word h (by decide) (by decide) (by decide) (k := 1) (by decide) (by decide) (by decide)
  exact this

set_option maxRecDepth 100000 in
set_option maxHeartbeats 4000000 in
theorem awake_any (w : World) (gt : TypeId) (gv : Value) (hg : Gives w gt gv) :
   Calls Tryd.prog 7 #[] w fun e w' => e = .returned (.bool true) ∧ Below w.heap.size w w' := by
  have HL := Lib.hid little_any
  have HG := Lib.hid hg
  clear hg
  go_enter Tryd.func7, Tryd.ntmps7
  go_wp2_with fail
  refine (HL.out _).mono ?_
  rintro e w1 ⟨⟨wb, eb, pa, pc, rfl, hw1, he1, hp1⟩, hb1⟩
  have G1 : Hid (Gives w1 gt gv) := by
    show Gives w1 gt gv
    unfold Gives; rw [hb1.cell (p := ⟨0, 0, none⟩) (World.block_lt_of_cell? w _ HG.out)]; exact HG.out
  have HC := Lib.hid (check_any _ littleL _ [(0, 0)] 0 pa 7 pc w1 hw1 he1 GoodNone (fun mn sl h => by rw [h.2.2]; simp) (decode_none hp1 G1.out))
  have HB1 := Lib.hid hb1
  clear hw1 he1 hp1 hb1
  go_wp2_with fail
  refine HC.out.mono ?_
  rintro e w2 ⟨⟨a, er, hc, rfl⟩, hb2⟩
  obtain ⟨rfl, rfl⟩ := little_good _ _ hc
  have HB2 := Lib.hid (HB1.out.trans (hb2.mono HB1.out.size))
  clear hc hb2 HC
  go_wp2_with fail
  refine (HL.out _).mono ?_
  rintro e w3 ⟨⟨wb3, eb3, pa3, pc3, rfl, hw3, he3, hp3⟩, hb3⟩
  have HB3 := Lib.hid (HB2.out.trans (hb3.mono HB2.out.size))
  have HE3 := Lib.hid he3
  have HP3 := Lib.hid hp3
  rcases hw3.split with ⟨_, _, _, h⟩ | ⟨b, off, c, hv, -, -, -, hbl, hcell⟩
  · cases h
  simp only [Value.slice.injEq, Option.some.injEq, Addr.mk.injEq] at hv
  obtain ⟨⟨rfl, rfl, -⟩, -, rfl⟩ := hv
  obtain ⟨d0, d1, d2, d3, d4⟩ := hcell 0 (by simp)
  obtain ⟨f0, f1, f2, f3, f4⟩ := hcell 1 (by simp)
  simp at d0 d1 d2 d3 d4 f0 f1 f2 f3 f4
  clear hb3 he3 hp3 hw3 hcell
  go_wp2_with fail
  go_region
  obtain ⟨W, hW⟩ : ∃ W, W = (((w3.alloc (.cells #[.slice (some ⟨w3.heap.size + 1, 0, none⟩) 3 3, .slice (some ⟨eb3, 0, none⟩) 1 1, .int .i64 0, .slice pa3 7 pc3] 26)).alloc (.cells #[.int .u8 30, .int .u8 0, .int .u8 0, .int .u8 0, .int .i64 7, .int .u8 45, .int .u8 0, .int .u8 0, .int .u8 0, .int .i64 9, .int .u8 47, .int .u8 0, .int .u8 0, .int .u8 0, .int .i64 0] 47)).drew) := ⟨_, rfl⟩
  rw [← hW]
  have hBW : Below w3.heap.size w3 W := by rw [hW]; exact (((Below.refl _ _).alloc (Nat.le_refl _) _).alloc (by simp) _).drew
  have hWh : W.heap[w3.heap.size]? = some (.cells #[.slice (some ⟨w3.heap.size + 1, 0, none⟩) 3 3, .slice (some ⟨eb3, 0, none⟩) 1 1, .int .i64 0, .slice pa3 7 pc3] 26) := by
    rw [hW]; exact heap_old _ _ (heap_new _ _ rfl)
  have hWh2 : W.heap[w3.heap.size + 1]? = some (.cells #[.int .u8 30, .int .u8 0, .int .u8 0, .int .u8 0, .int .i64 7, .int .u8 45, .int .u8 0, .int .u8 0, .int .u8 0, .int .i64 9, .int .u8 47, .int .u8 0, .int .u8 0, .int .u8 0, .int .i64 0] 47) := by
    rw [hW]; exact heap_new _ _ (by simp)
  have c0 : W.cell? ⟨w3.heap.size, 0, none⟩ = some (.slice (some ⟨w3.heap.size + 1, 0, none⟩) 3 3) := by simp [World.cell?, hWh]
  have c1 : W.cell? ⟨w3.heap.size, 1, none⟩ = some (.slice (some ⟨eb3, 0, none⟩) 1 1) := by simp [World.cell?, hWh]
  have c2 : W.cell? ⟨w3.heap.size, 2, none⟩ = some (.int .i64 0) := by simp [World.cell?, hWh]
  have c3 : W.cell? ⟨w3.heap.size, 3, none⟩ = some (.slice pa3 7 pc3) := by simp [World.cell?, hWh]
  have G3 : Gives W gt gv := gives_below HG.out (HB3.out.trans (hBW.mono HB3.out.size))
  have HC := Lib.hid (check_any (.slice (some ⟨w3.heap.size + 1, 0, none⟩) 3 3) [⟨30, 0, 0, 0, 7⟩, ⟨45, 0, 0, 0, 9⟩, ⟨47, 0, 0, 0, 0⟩] _ [(0, 0)] 0 pa3 7 pc3 W (Rd.of_heap hWh2 rfl rfl (by unfold maxLen; simp)) (Rd.later HE3.out hBW) GoodNone (fun mn sl h => by rw [h.2.2]; simp) (decode_none (Rd.later HP3.out hBW) G3))
  have HBW := Lib.hid (HB3.out.trans (hBW.mono HB3.out.size))
  clear hW hBW hWh hWh2 G3
  go_wp2_with fail
  refine HC.out.mono ?_
  rintro e w4 ⟨⟨a, er, hc, rfl⟩, hb4⟩
  obtain ⟨rfl, rfl⟩ := jump_bad _ _ hc
  have HB4 := Lib.hid (HBW.out.trans (hb4.mono HBW.out.size))
  clear hc hb4 HC c0 c1 c2 c3
  go_wp2_with fail
  go_ret
  exact ⟨rfl, HB4.out⟩
end Go.Proofs.YtnanlkoldloolaaDoor
