/- Keep: one moment more; bytes copied; the store's search. -/
import Derived.Test.YtmfhmegkgpaemaaKf
import Derived.Lib.SliceRun
namespace Go.Proofs.Ytmfhmegkgpaemaa
open Go.RowKit

theorem insert_any (v : Value) (i base B : Nat) (x : Int) (p : Value) (l : List Mo) (w : World) (h : ownO w base v l) (hi : i ≤ l.length) (hl : l.length ≤ 1000) (hS : ∀ m ∈ l, SlV m.2) (hp : SlV p) (hbase : base ≤ w.heap.size)
    (hB : w.heap[B]? = some (.cells #[.int .i64 x, p] 56 (0, 0))) (hBg : ∀ k, v.ownBlock = some k → B ≠ k) :
    Calls Try.prog 17 #[v, .int .i64 i, .slice (some ⟨B, 0, none⟩) 1 1] w fun e w' =>
      ∃ v', e = .returned v' ∧ ownO w' base v' (l.take i ++ (x, p) :: l.drop i) ∧ w.grownBy w' v.ownBlock ∧ fromS w v v' := by
  by_cases hil : i = l.length
  · subst hil
    have := insert_end v base B x p l w h hl hp hbase hB
    rw [List.take_length, List.drop_length]
    exact this
  · have hlt : i < l.length := by omega
    rcases h.2 with ⟨h1, h2⟩ | ⟨g, c, cur, rfl, h2, h3, h4, h5, h6, h7⟩
    · omega
    · by_cases hroom : l.length + 1 ≤ c
      · exact insert_room g c i base B x p l w h hlt hroom hl hS hp hB (hBg g rfl)
      · exact insert_grow g c i base B x p l w h hlt (by omega) hl hS hp hbase hB (hBg g rfl)

theorem infoB : (Try.prog.info? 5).map (fun i => (i.zero, i.size, i.bytes)) = some (some (.int .u8 0), 1, 1) := by kernel_rfl
abbrev ownB (w : World) (base : Nat) (v : Value) (l : List Int) : Prop := w.ownsRow base 5 1 v l.length (l.map (Value.int .u8))
theorem ownB.rd {w : World} {base : Nat} {v : Value} {l : List Int} (h : ownB w base v l) : RdB w v l := Rd.of_own h
theorem ownB.slV {w : World} {base : Nat} {v : Value} {l : List Int} (h : ownB w base v l) : SlV v := by
  obtain ⟨a, c, e⟩ := (Rd.of_own h).shape
  exact ⟨a, _, c, e⟩
theorem own_emptyB (w : World) : (w.alloc (.cells #[] 5)).ownsRow w.heap.size 5 1 (.slice (some ⟨w.heap.size, 0, none⟩) 0 0) 0 [] :=
  ⟨rfl, .inr ⟨w.heap.size, 0, #[], rfl, Nat.le_refl _, heap_alloc_new _ _, Nat.le_refl _, Nat.zero_le _, rfl, rfl⟩⟩

set_option maxHeartbeats 4000000 in
theorem clone_any (v : Value) (l : List Int) (w : World) (hv : RdB w v l) (hl : l.length ≤ 1000000) :
    Calls Try.prog 15 #[v] w fun e w' => ∃ v', e = .returned v' ∧ ownB w' w.heap.size v' l ∧ Below w.heap.size w w' := by
  obtain ⟨im, mi0, mz0, mz1, mz2⟩ := info_parts infoB
  have HV := Lib.hid hv
  have hnl := fun W a n c => Lib.run_eql_slice_nil (P := Try.prog) W 29 5 a n c 0 0 Try.underlying29
  rcases hv.2 with ⟨rfl, h0⟩ | ⟨a, c, rfl, h1, h2, h3⟩
  · have hl0 : l = [] := List.eq_nil_of_length_eq_zero h0
    subst hl0
    go_enter Try.func15, Try.ntmps15
    go_wp2_with fail
    go_ret
    exact ⟨_, rfl, ⟨rfl, .inl ⟨rfl, rfl⟩⟩, Below.refl _ _⟩
  · have b1 : 0 + l.length ≤ maxLen := by unfold maxLen; omega
    have b2 : (0 + l.length) * 1 ≤ 140737488355328 := by omega
    have HR : Hid (RdB (w.alloc (.cells #[] 5)) _ l) := Rd.alloc HV.out _
    clear hv h1 h2 h3
    go_enter Try.func15, Try.ntmps15
    go_wp2_with (at_builtin; refine wpList_append_own_rd _ rfl _ _ 29 rfl w.heap.size 5 im (.int .u8 0) 1 1 Try.underlying29 mi0 mz0 mz1 mz2 rfl (by decide) _ 0 [] rfl (own_emptyB w) _ l.length (l.map (Value.int .u8)) rfl HR.out (ints_oneCell .u8 _) b1 b2 (by simp) ?_; intro v' w' hown' hgrow')
    go_ret
    refine ⟨_, rfl, ?_, ((Below.refl _ _).alloc (Nat.le_refl _) _).grown hgrow' (by simp) (fun k hk => by cases hk; exact Nat.le_refl _)⟩
    show World.ownsRow _ _ _ _ _ _ _
    have := hown'
    rw [Nat.zero_add, List.nil_append] at this
    exact this

/-- The store in memory: how many at most, its moments' row. -/
structure StAt (w : World) (base Bs : Nat) (most : Int) (v : Value) (l : List Mo) (S : List (Int × List Int)) : Prop where
  at_ : w.heap[Bs]? = some (.cells #[.int .i64 most, v] 51 (0, 0))
  lb : base ≤ Bs
  row : ownO w base v l
  len : l.length = S.length
  ats : ∀ i, (hi : i < l.length) → (hi2 : i < S.length) → l[i].1 = S[i].1
  ps : ∀ i, (hi : i < l.length) → (hi2 : i < S.length) → ownB w base l[i].2 S[i].2
theorem StAt.sl {w : World} {base Bs : Nat} {most : Int} {v : Value} {l : List Mo} {S : List (Int × List Int)} (h : StAt w base Bs most v l S) : ∀ m ∈ l, SlV m.2 := fun m hm => by
  obtain ⟨i, hi, rfl⟩ := List.getElem_of_mem hm
  exact (h.ps i hi (by have := h.len; omega)).slV
def RisS (S : List (Int × List Int)) : Prop := ∀ i j, (hi : i < S.length) → (hj : j < S.length) → i < j → S[i].1 < S[j].1
theorem StAt.rising {w : World} {base Bs : Nat} {most : Int} {v : Value} {l : List Mo} {S : List (Int × List Int)} (h : StAt w base Bs most v l S) (hr : RisS S) : Rising l := fun i j hi hj hij => by
  have e := h.len
  rw [h.ats i hi (by omega), h.ats j hj (by omega)]
  exact hr i j (by omega) (by omega) hij

set_option maxHeartbeats 2000000 in
theorem find_any (x : Int) (w : World) (base Bs : Nat) (most : Int) (v : Value) (l : List Mo) (S : List (Int × List Int)) (h : StAt w base Bs most v l S) (hR : RisS S) (hl : l.length ≤ 1000) :
    Calls Try.prog 14 #[.pointer (some ⟨Bs, 0, none⟩), .int .i64 x] w fun e w' => ∃ i : Nat, e = .returned (.tuple #[.int .i64 i, .bool (hasAt l i x)]) ∧ FindAt l x i ∧ Below w.heap.size w w' := by
  have HS := Lib.hid (search_any v l x w (Rd.of_own h.row) h.sl (h.rising hR) hl)
  have c1 : w.cell? ⟨Bs, 0, none⟩ = some (.int .i64 most) := by simp [World.cell?, h.at_]
  have c2 : w.cell? ⟨Bs, 1, none⟩ = some v := by simp [World.cell?, h.at_]
  have hlt : Bs < w.heap.size := (Array.getElem?_eq_some_iff.1 h.at_).1
  obtain ⟨va, vc, rfl⟩ := (Rd.of_own h.row).shape
  clear h hR
  go_enter Try.func14, Try.ntmps14
  go_wp2_with fail
  refine HS.out.mono ?_
  rintro e w1 ⟨i, rfl, hf, hb⟩
  have HF := Lib.hid (And.intro hf hb)
  clear hf hb
  go_wp2_with fail
  go_ret2
  exact ⟨i, rfl, HF.out.1, HF.out.2⟩
end Go.Proofs.Ytmfhmegkgpaemaa
