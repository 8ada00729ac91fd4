/- Walks: an instruction's bytes, as the program makes them. -/
import Derived.Test.YtlnaaoigggfefaaJ
import Derived.Test.YtlnaaoigggfefaaL
import Derived.Deep.RegionHeld3
import Derived.Deep.DeepCutAuto
namespace Go.Proofs.Ytlnaaoigggfefaa
open Go.RowKit

theorem own_ne {w : World} {base : Nat} {e e' : TypeId} {size n R : Nat} {v : Value} {xs : List Value} {c : Array Value} {f : Nat × Nat} (h : w.ownsRow base e size v n xs) (hR : w.heap[R]? = some (.cells c e' f)) (hne : e ≠ e') : some R ≠ v.ownBlock := by
  intro heq
  rcases h.2 with ⟨rfl, _⟩ | ⟨g, cap, cur, rfl, _, hg, _⟩
  · simp [Value.ownBlock] at heq
  · simp [Value.ownBlock] at heq
    subst heq
    rw [hg] at hR
    simp at hR
    exact hne hR.2.1

structure EncLoop (op a b c imm : Int) (q : Nat) (i : Bool) (lo hi : Int) (w w2 wr : World) (v : Value) (j : Nat) : Prop where
  own : ownB wr w.heap.size v (op :: [a, b, c].take j)
  bel : Below w.heap.size w wr
  word : wr.heap[w.heap.size]? = some (.cells #[.int .u8 op, .int .u8 a, .int .u8 b, .int .u8 c, .int .i64 imm] 26)
  shape : wr.heap[w2.heap.size]? = some (.cells #[.int .i64 (q : Int), .bool i, .int .i64 lo, .int .i64 hi] 52)
  ptrs : wr.heap[w2.heap.size + 2]? = some (.cells #[.pointer (some ⟨w.heap.size, 1, none⟩), .pointer (some ⟨w.heap.size, 2, none⟩), .pointer (some ⟨w.heap.size, 3, none⟩)] 58)

theorem enc_next {op a b c imm lo hi x : Int} {q j N : Nat} {i : Bool} {w w2 wr w1 : World} {v v' : Value} {o : Obj} {xs : List Value} (h : EncLoop op a b c imm q i lo hi w w2 wr v j)
    (hx : [a, b, c][j]? = some x) (h1 : w1.ownsRow w.heap.size 5 1 v' N xs) (hg : (wr.alloc o).grownBy w1 v.ownBlock)
    (hN : N = (op :: [a, b, c].take j).length + 1 := by rfl) (hxs : xs = (op :: [a, b, c].take j).map (Value.int .u8) ++ [.int .u8 x] := by rfl) : EncLoop op a b c imm q i lo hi w w2 w1 v' (j + 1) := by
  have hs := h.bel.size
  have l1 := (Array.getElem?_eq_some_iff.1 h.word).1
  have l2 := (Array.getElem?_eq_some_iff.1 h.shape).1
  have l3 := (Array.getElem?_eq_some_iff.1 h.ptrs).1
  refine ⟨?_, ?_, ?_, ?_, ?_⟩
  · have := ownB_grow (l := op :: [a, b, c].take j) (x := [x]) (n := N) (by rw [hxs] at h1; exact h1) (by rw [hN]; simp)
    rw [List.take_add_one, hx]; simpa using this
  · exact (h.bel.alloc hs _).grown hg (by simp; omega) (fun k hk => (h.own.lt k hk).1)
  · rw [hg.block _ (by simp; omega) (own_ne h.own h.word (by decide)), heap_alloc_old _ _ l1]; exact h.word
  · rw [hg.block _ (by simp; omega) (own_ne h.own h.shape (by decide)), heap_alloc_old _ _ l2]; exact h.shape
  · rw [hg.block _ (by simp; omega) (own_ne h.own h.ptrs (by decide)), heap_alloc_old _ _ l3]; exact h.ptrs

theorem encode_no (op a b c imm : Int) (w : World) (hf : formB ⟨op, a, b, c, imm⟩ = false) :
   Calls Try.prog 13 #[.agg #[.int .u8 op, .int .u8 a, .int .u8 b, .int .u8 c, .int .i64 imm]] w fun e w' => e = .returned (.tuple #[.slice none 0 0, .int .i64 3]) ∧ Below w.heap.size w w' := by
  have h := fun w => form_any op a b c imm w
  rw [hf] at h
  have H := Lib.hid h
  clear h hf
  go_enter Try.func13, Try.ntmps13
  go_wp2_with fail
  refine (H.out _).mono ?_
  rintro e w1 ⟨rfl, hb⟩
  go_wp2_with fail
  go_ret2
  exact ⟨rfl, ((Below.refl _ _).alloc (Nat.le_refl _) _).trans (hb.mono (by simp))⟩

set_option maxHeartbeats 4000000 in
theorem encode_ok (op a b c imm : Int) (w : World) (hf : formB ⟨op, a, b, c, imm⟩ = true) (hi1 : -9223372036854775808 ≤ imm) (hi2 : imm ≤ 9223372036854775807) (h0 : 0 ≤ op) (h1 : op ≤ 255) :
   Calls Try.prog 13 #[.agg #[.int .u8 op, .int .u8 a, .int .u8 b, .int .u8 c, .int .i64 imm]] w fun e w' => ∃ v, e = .returned (.tuple #[v, .int .i64 0]) ∧ ownB w' w.heap.size v (encL ⟨op, a, b, c, imm⟩) ∧ Below w.heap.size w w' := by
  obtain ⟨r, i, lo, hi, ok, hs⟩ : ∃ r i lo hi ok, shp op = (r, i, lo, hi, ok) := ⟨_, _, _, _, _, rfl⟩
  have hE : Hid (encL ⟨op, a, b, c, imm⟩ = op :: ([a, b, c].take r.toNat ++ (if i then numL imm (op == 30) else []))) := by show _ = _; simp only [encL, hs]
  obtain ⟨⟨r0, r3⟩, -, -⟩ := shp_facts h0 h1 hs
  obtain ⟨q, rfl⟩ := Int.eq_ofNat_of_zero_le r0
  clear r0
  have hok : ok = true := by simp only [formB, hs, Bool.and_eq_true] at hf; exact hf.1
  subst hok
  have H := Lib.hid (fun w => by have := form_any op a b c imm w; rw [hf] at this; exact this)
  have HS := Lib.hid (fun w => shape_is hs w)
  obtain ⟨i0, hi, hz0, hz1, hz2⟩ := info_parts infoB
  have HI : Hid _ := And.intro hi (And.intro hz0 (And.intro hz1 hz2))
  clear hi hz0 hz1 hz2 hf hs h0 h1
  go_enter Try.func13, Try.ntmps13
  go_wp2_with fail
  refine (H.out _).mono ?_
  rintro e w1 ⟨rfl, hb⟩
  have hz : w.heap.size < w1.heap.size := by have := hb.size; simp at this; omega
  have hW1 : w1.heap[w.heap.size]? = some (.cells #[.int .u8 op, .int .u8 a, .int .u8 b, .int .u8 c, .int .i64 imm] 26) := by
    rw [hb.block w.heap.size (by simp)]; exact heap_alloc_new w _
  have HB1 : Hid (Below w.heap.size w w1) := ((Below.refl _ _).alloc (Nat.le_refl _) _).trans (hb.mono (by simp))
  obtain ⟨hc1, hf1⟩ := bcell hb
  clear hb H
  go_wp2_with fail
  refine (HS.out _).mono ?_
  rintro e w2 ⟨rfl, hb⟩
  have hz2 : w1.heap.size ≤ w2.heap.size := hb.size
  have hW2 : w2.heap[w.heap.size]? = some (.cells #[.int .u8 op, .int .u8 a, .int .u8 b, .int .u8 c, .int .i64 imm] 26) := by
    rw [hb.block w.heap.size hz]; exact hW1
  have HB2 : Hid (Below w.heap.size w w2) := HB1.out.trans (hb.mono (by omega))
  clear hb HS hW1 hc1 hf1 HB1
  have HW2 := Lib.hid hW2
  have d0 : w2.cell? ⟨w.heap.size, 0, none⟩ = some (.int .u8 op) := by simp [World.cell?, hW2]
  have d1 : w2.cell? ⟨w.heap.size, 1, none⟩ = some (.int .u8 a) := by simp [World.cell?, hW2]
  have d2 : w2.cell? ⟨w.heap.size, 2, none⟩ = some (.int .u8 b) := by simp [World.cell?, hW2]
  have d3 : w2.cell? ⟨w.heap.size, 3, none⟩ = some (.int .u8 c) := by simp [World.cell?, hW2]
  have d4 : w2.cell? ⟨w.heap.size, 4, none⟩ = some (.int .i64 imm) := by simp [World.cell?, hW2]
  have hz3 : w.heap.size < w2.heap.size := by omega
  clear hW2 hz hz2
  go_wp2_with fail
  go_region_held3 (fun w' => w'.cell? ⟨w2.heap.size, 0, none⟩ = some (.int .i64 (q : Int))) (simp [go_sem, World.cell?_alloc_past]) (first | (go_at_call 26; refine (regs_any _ _ _).mono ?_; rintro e w3 ⟨rfl, rfl⟩))
  go_wp2_with fail
  go_loopw [6, 26] (fun v k wr => ∃ j : Nat, j ≤ q ∧ k = .int .i64 j ∧ EncLoop op a b c imm q i lo hi w w2 wr v j) (fun _ k _ => 4 - (intOf k).toNat)
  case atStart =>
    refine ⟨0, by omega, rfl, ?_, ?_, ?_, ?_, ?_⟩
    · have h := World.ownsRow.alloc (own_one (w2.alloc (.cells #[.int .i64 (q : Int), .bool i, .int .i64 lo, .int .i64 hi] 52)) w.heap.size (.int .u8 op) (by simp; omega)) (.cells #[.pointer (some ⟨w.heap.size, 1, none⟩), .pointer (some ⟨w.heap.size, 2, none⟩), .pointer (some ⟨w.heap.size, 3, none⟩)] 58)
      rw [World.size_alloc] at h
      exact h
    · refine Below.drew (Below.drew (Below.alloc (Below.alloc (Below.alloc HB2.out ?_ _) ?_ _) ?_ _)) <;> (try simp) <;> omega
    · rw [heap_drew, heap_drew, heap_alloc_old _ _ (by simp; omega), heap_alloc_old _ _ (by simp; omega), heap_alloc_old _ _ (by omega)]; exact HW2.out
    · rw [heap_drew, heap_drew, heap_alloc_old _ _ (by simp; omega), heap_alloc_old _ _ (by simp), heap_alloc_new]
    · rw [heap_drew, heap_drew, show w2.heap.size + 2 = ((w2.alloc (.cells #[.int .i64 (q : Int), .bool i, .int .i64 lo, .int .i64 hi] 52)).alloc (.cells #[.int .u8 op] 5)).heap.size from by simp, heap_alloc_new]
  case round =>
    obtain ⟨j, hj, rfl, hl⟩ := hrel
    have HL := Lib.hid hl
    have hsz := hl.bel.size
    have HO := Lib.hid hl.own
    have HB := Lib.hid hl.bel
    have k1 := hl.word
    have k2 := hl.shape
    have k3 := hl.ptrs
    clear hl
    by_cases hlt : j < q
    · have hj3 : j = 0 ∨ j = 1 ∨ j = 2 := by omega
      have z1 : w.heap.size < wr.heap.size := (Array.getElem?_eq_some_iff.1 k1).1
      have z3 : w2.heap.size + 2 < wr.heap.size := (Array.getElem?_eq_some_iff.1 k3).1
      clear hj r3
      rcases hj3 with rfl | rfl | rfl
      · have c1 : wr.cell? ⟨w2.heap.size + 1 + 1, 0, none⟩ = some (.pointer (some ⟨w.heap.size, 1, none⟩)) := by simp [World.cell?, k3]
        have c2 : wr.cell? ⟨w.heap.size, 1, none⟩ = some (.int .u8 a) := by simp [World.cell?, k1]
        clear k1 k2 k3
        go_wp2_with (at_builtin; refine wpList_append_own _ rfl _ _ 22 rfl w.heap.size 5 i0 (.int .u8 0) 1 1 Try.underlying22 HI.out.1 HI.out.2.1 HI.out.2.2.1 HI.out.2.2.2 rfl (by decide) _ _ _ rfl (HO.out.alloc _) ⟨wr.heap.size, 0, none⟩ 1 1 [.int .u8 _] rfl rfl (cell_one_new _ _ _) (ints_oneCell .u8 [_]) (by simp; unfold maxLen; omega) (by simp) (Nat.le_trans hsz (by simp)) ?_; intro v' w1 hown1 hgrow1 _)
        exact ⟨⟨1, by omega, rfl, enc_next HL.out rfl hown1 hgrow1⟩, by simp [intOf]⟩
      · have c1 : wr.cell? ⟨w2.heap.size + 1 + 1, 1, none⟩ = some (.pointer (some ⟨w.heap.size, 2, none⟩)) := by simp [World.cell?, k3]
        have c2 : wr.cell? ⟨w.heap.size, 2, none⟩ = some (.int .u8 b) := by simp [World.cell?, k1]
        clear k1 k2 k3
        go_wp2_with (at_builtin; refine wpList_append_own _ rfl _ _ 22 rfl w.heap.size 5 i0 (.int .u8 0) 1 1 Try.underlying22 HI.out.1 HI.out.2.1 HI.out.2.2.1 HI.out.2.2.2 rfl (by decide) _ _ _ rfl (HO.out.alloc _) ⟨wr.heap.size, 0, none⟩ 1 1 [.int .u8 _] rfl rfl (cell_one_new _ _ _) (ints_oneCell .u8 [_]) (by simp; unfold maxLen; omega) (by simp) (Nat.le_trans hsz (by simp)) ?_; intro v' w1 hown1 hgrow1 _)
        exact ⟨⟨2, by omega, rfl, enc_next HL.out rfl hown1 hgrow1⟩, by simp [intOf]⟩
      · have c1 : wr.cell? ⟨w2.heap.size + 1 + 1, 2, none⟩ = some (.pointer (some ⟨w.heap.size, 3, none⟩)) := by simp [World.cell?, k3]
        have c2 : wr.cell? ⟨w.heap.size, 3, none⟩ = some (.int .u8 c) := by simp [World.cell?, k1]
        clear k1 k2 k3
        go_wp2_with (at_builtin; refine wpList_append_own _ rfl _ _ 22 rfl w.heap.size 5 i0 (.int .u8 0) 1 1 Try.underlying22 HI.out.1 HI.out.2.1 HI.out.2.2.1 HI.out.2.2.2 rfl (by decide) _ _ _ rfl (HO.out.alloc _) ⟨wr.heap.size, 0, none⟩ 1 1 [.int .u8 _] rfl rfl (cell_one_new _ _ _) (ints_oneCell .u8 [_]) (by simp; unfold maxLen; omega) (by simp) (Nat.le_trans hsz (by simp)) ?_; intro v' w1 hown1 hgrow1 _)
        exact ⟨⟨3, by omega, rfl, enc_next HL.out rfl hown1 hgrow1⟩, by simp [intOf]⟩
    · obtain rfl : j = q := by omega
      have c1 : wr.cell? ⟨w2.heap.size, 1, none⟩ = some (.bool i) := by simp [World.cell?, k2]
      have c2 : wr.cell? ⟨w.heap.size, 0, none⟩ = some (.int .u8 op) := by simp [World.cell?, k1]
      have c3 : wr.cell? ⟨w.heap.size, 4, none⟩ = some (.int .i64 imm) := by simp [World.cell?, k1]
      clear k1 k2 k3
      cases i
      · go_wp2_with fail
        go_ret2
        exact ⟨_, rfl, by rw [hE.out]; simpa using HO.out, HB.out⟩
      · go_wp2_with fail
        refine (number_any _ _ _ hi1 hi2).mono ?_
        rintro e w3 ⟨v3, rfl, hn, hb3⟩
        have hl : (op :: List.take j [a, b, c]).length ≤ 4 := by simp; omega
        have hl2 := nbL_le imm (op == 30)
        have b1 : (op :: List.take j [a, b, c]).length + (numL imm (op == 30)).length ≤ maxLen := by simp [numL, bytesL_length]; unfold maxLen; omega
        have b2 : ((op :: List.take j [a, b, c]).length + (numL imm (op == 30)).length) * 1 ≤ 140737488355328 := by simp [numL, bytesL_length]; omega
        have hs3 := hb3.size
        have ho3 : w3.ownsRow w.heap.size 5 1 _ _ _ := HO.out.kept (row := none) ⟨hb3.os, hb3.tape, hb3.output, hb3.size, fun k hk _ => hb3.block k hk⟩ (by cases hv : Value.ownBlock _ <;> simp)
        have HN := Lib.hid hn
        have HB3 := Lib.hid (HB.out.trans (hb3.mono hsz))
        have HO3 := Lib.hid ho3
        have hsz3 : w.heap.size ≤ w3.heap.size := Nat.le_trans hsz hs3
        clear hb3 hn ho3 hs3 hl hl2
        go_wp2_with (at_builtin; refine wpList_append_own_rd _ rfl _ _ 22 rfl w.heap.size 5 i0 (.int .u8 0) 1 1 Try.underlying22 HI.out.1 HI.out.2.1 HI.out.2.2.1 HI.out.2.2.2 rfl (by decide) _ _ _ rfl HO3.out _ _ _ rfl HN.out.rd (ints_oneCell .u8 _) b1 b2 hsz3 ?_; intro v' w4 hown4 hgrow4)
        go_ret2
        refine ⟨_, rfl, ?_, ?_⟩
        · rw [hE.out]; simp only [if_true, Int.toNat_natCast]
          exact ownB_grow (l := op :: List.take j [a, b, c]) hown4 (by simp)
        · exact HB3.out.grown hgrow4 hsz3 (fun k hk => (HO3.out.lt k hk).1)
end Go.Proofs.Ytlnaaoigggfefaa
