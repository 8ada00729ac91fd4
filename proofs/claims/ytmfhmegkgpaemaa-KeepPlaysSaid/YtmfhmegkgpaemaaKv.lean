/- Keep: the document's drop. -/
import Derived.Test.YtmfhmegkgpaemaaKu
namespace Go.Proofs.Ytmfhmegkgpaemaa
open Go.RowKit

theorem rdR_one {w : World} {B : Nat} {x : Int} {p : Value} (hB : w.heap[B]? = some (.cells #[.int .i64 x, p] 47 (0, 0))) : Rd w 2 (.slice (some ⟨B, 0, none⟩) 1 1) 1 (cellsO [(x, p)]) :=
  Rd.mk rfl (by decide) (by decide) fun j hj => by
    have : j = 0 ∨ j = 1 := by simp [cellsO] at hj; omega
    rcases this with rfl | rfl <;> simp [World.cell?, hB, cellsO]

theorem own_baseR {w : World} {base B : Nat} {q : Value} {l : List Mo} (h : ownR w B q l) (hb : base ≤ B) : ownR w base q l := by
  refine ⟨h.1, ?_⟩
  rcases h.2 with h | ⟨g', c', cur', e1, e2, e3⟩
  · exact .inl h
  · exact .inr ⟨g', c', cur', e1, Nat.le_trans hb e2, e3⟩
theorem heap_two (w : World) (A B : Obj) : ((w.alloc A).alloc B).heap[w.heap.size + 1]? = some B := by
  have := heap_alloc_new (w.alloc A) B
  rw [World.size_alloc] at this
  exact this
theorem erase_step (l : List Mo) (j k : Nat) (h : j < l.length) : (l.take (j + 1)).eraseIdx k = if j = k then (l.take j).eraseIdx k else (l.take j).eraseIdx k ++ [l[j]] := by
  have hl : (l.take j).length = j := by rw [List.length_take]; omega
  rw [List.take_succ_eq_append_getElem h]
  split
  · rename_i e
    rw [List.eraseIdx_append_of_length_le (by omega), List.eraseIdx_of_length_le (l := l.take j) (by omega)]
    have : k - (l.take j).length = 0 := by omega
    rw [this]; simp
  · by_cases hk : k < j
    · rw [List.eraseIdx_append_of_lt_length (by omega)]
    · rw [List.eraseIdx_append_of_length_le (by omega), List.eraseIdx_of_length_le (l := l.take j) (by omega)]
      congr 1
      rw [List.eraseIdx_of_length_le (by simp; omega)]

set_option maxHeartbeats 4000000 in
theorem refDrop_at (k : Nat) (w : World) (base Bs : Nat) (most : Int) (v : Value) (l : List Mo) (S : Ms) (h : RAt w base Bs most v l S) (hl : l.length ≤ 1000) (hbase : base ≤ w.heap.size) :
    Calls Try.prog 28 #[.pointer (some ⟨Bs, 0, none⟩), .int .i64 k] w fun e w' =>
      e = .returned (.tuple #[]) ∧ (∃ v' l', RAt w' base Bs most v' l' (S.eraseIdx k) ∧ ∀ m ∈ l', m ∈ l) ∧ Below base w w' ∧ KeepR w w' := by
  obtain ⟨im, mi0, mz0, mz1, mz2⟩ := info_parts infoR
  have c1 : w.cell? ⟨Bs, 0, none⟩ = some (.int .i64 most) := by simp [World.cell?, h.at_]
  have c2 : w.cell? ⟨Bs, 1, none⟩ = some v := by simp [World.cell?, h.at_]
  have hlt : Bs < w.heap.size := h.lt
  have HV : Hid (RdO w v l) := Rd.of_own h.row
  have HS := Lib.hid h
  obtain ⟨va, vc, rfl⟩ := (Rd.of_own h.row).shape
  clear h
  go_enter Try.func28, Try.ntmps28
  go_wp2_with fail
  go_loopw [12, 4] (fun i out wr => ∃ j : Nat, j ≤ l.length ∧ i = .int .i64 j ∧ Hid (ownR wr w.heap.size out ((l.take j).eraseIdx k)) ∧ Hid (Below w.heap.size w wr)) (fun i _ _ => l.length - (intOf i).toNat)
  case atStart => exact ⟨0, by omega, rfl, ⟨by simp [cellsO], .inl ⟨rfl, by simp⟩⟩, Below.refl _ _⟩
  case round =>
    obtain ⟨wa, rfl⟩ : ∃ wa : World, wa = wr := ⟨_, rfl⟩
    obtain ⟨j, hj, rfl, HO, HB⟩ := hrel
    obtain ⟨oa, oc, rfl⟩ := (Rd.of_own HO.out).shape
    have hsz := HB.out.size
    by_cases hlt2 : j < l.length
    · rcases HV.out.split with ⟨a, c, h0, h1⟩ | ⟨b, off, c, h0, hp, hlc, hc9, hb, hcell⟩
      · subst h1; simp at hlt2
      · simp only [Value.slice.injEq] at h0
        obtain ⟨rfl, _, rfl⟩ := h0
        obtain ⟨d1, d2⟩ := hcell j hlt2
        rw [← HB.out.cell (p := ⟨b, off + j * 2, none⟩) hb] at d1
        rw [← HB.out.cell (p := ⟨b, off + j * 2 + 1, none⟩) hb] at d2
        have hbr : b < wa.heap.size := Nat.lt_of_lt_of_le hb hsz
        obtain ⟨pa, pn, pc, hpp⟩ := HS.out.sl _ (List.getElem_mem hlt2)
        have hes := erase_step l j k hlt2
        have hxl : l[j] = (l[j].1, .slice pa pn pc) := by rw [← hpp]
        rw [hpp] at d2
        rw [hxl] at hes
        obtain ⟨x, hx⟩ : ∃ x, l[j].1 = x := ⟨_, rfl⟩
        rw [hx] at d1 hes
        have hxs1 : ((l.take j).eraseIdx k).length ≤ j := Nat.le_trans (List.length_eraseIdx_le _ _) (by rw [List.length_take]; omega)
        obtain ⟨xs, hxs⟩ : ∃ xs, (l.take j).eraseIdx k = xs := ⟨_, rfl⟩
        rw [hxs] at HO hes hxs1 ⊢
        have HES := Lib.hid hes
        clear hx hpp hcell hxs hxl hes
        by_cases hjk : j = k
        · have hb0 : ((j : Int) != (k : Int)) = false := by simp [hjk]
          have HJK := Lib.hid hjk
          clear hjk
          go_wp2_with fail
          refine ⟨⟨j + 1, by omega, by go_num, ?_, (HB.out.alloc hsz _)⟩, by simp [intOf]; omega⟩
          rw [HES.out, if_pos HJK.out]
          exact HO.out.alloc _
        · have hb0 : ((j : Int) != (k : Int)) = true := by simp; omega
          have HJK := Lib.hid hjk
          clear hjk
          have b1 : Hid (xs.length + 1 ≤ maxLen) := by show _ ≤ _; unfold maxLen; omega
          have b2 : Hid ((xs.length + 1) * 32 ≤ 140737488355328) := by show _ ≤ _; omega
          have ho1 := cellsO_one [(x, .slice pa pn pc)] (by intro m hm; simp at hm; subst hm; exact ⟨_, _, _, rfl⟩)
          go_wp2_with (at_builtin; refine wpList_append_own_rd _ rfl _ _ 43 rfl w.heap.size 47 im (.agg #[.int .i64 0, .slice none 0 0]) 2 32 Try.underlying43 mi0 mz0 mz1 mz2 rfl (by decide) _ _ _ rfl ((HO.out.alloc _).alloc _) (.slice (some ⟨wa.heap.size + 1, 0, none⟩) 1 1) 1 (cellsO [(x, .slice pa pn pc)]) rfl (rdR_one (heap_two _ _ _)) ho1 b1.out b2.out (by simp; omega) ?_; intro v' w4 hown4 hgrow4)
          refine ⟨⟨j + 1, by omega, by go_num, ?_, ((HB.out.alloc hsz _).alloc (by simp; omega) _).grown hgrow4 (by simp; omega) (fun k hk => (HO.out.lt k hk).1)⟩, by simp [intOf]; omega⟩
          rw [HES.out, if_neg HJK.out]
          show World.ownsRow _ _ _ _ _ _ _
          rw [List.length_append, cellsO_append]
          exact hown4
    · obtain rfl : j = l.length := by omega
      rw [List.take_length] at HO ⊢
      obtain ⟨⟨f1, f2, f3⟩, hst, hkr⟩ := HS.out.turn (grown_of_below HB.out) (show ownR _ base _ _ from own_baseR HO.out hbase) (HS.out.prs.erase k)
      have HE := Lib.hid (And.intro hst hkr)
      clear hst hkr HO HV HS
      have hlt3 : Bs < wa.heap.size := by omega
      go_wp2_with fail
      refine bodyPost_end (v := .tuple #[]) (by simp [results, Try.f28, go_sem]) rfl ?_
      exact ⟨rfl, ⟨_, _, HE.out.1, fun m hm => (List.eraseIdx_sublist l k).subset hm⟩, (HB.out.mono hbase).setCell HE.out.1.lb _, HE.out.2⟩
end Go.Proofs.Ytmfhmegkgpaemaa
