/- Keep: Drop, Best. -/
import Derived.Test.YtmfhmegkgpaemaaKj
namespace Go.Proofs.Ytmfhmegkgpaemaa
open Go.RowKit

theorem not_has {l : List Mo} {x : Int} {i : Nat} (hf : FindAt l x i) (hb : hasAt l i x = false) (hr : Rising l) : ∀ k, (hk : k < l.length) → l[k].1 ≠ x := fun k hk e => by
  by_cases h1 : k < i
  · have := hf.lo k hk h1; omega
  · by_cases h2 : k = i
    · subst h2
      unfold hasAt at hb
      rw [List.getElem?_eq_getElem hk] at hb
      simp at hb
      exact hb e
    · have h3 := hr i k (by omega) hk (by omega)
      have h4 := hf.hi i (by omega) (Nat.le_refl _)
      omega
theorem has_at {l : List Mo} {x : Int} {i : Nat} (hb : hasAt l i x = true) : ∃ h : i < l.length, l[i].1 = x := by
  unfold hasAt at hb
  cases h : l[i]? with
  | none => rw [h] at hb; cases hb
  | some m =>
    rw [h] at hb
    obtain ⟨hi, e⟩ := List.getElem?_eq_some_iff.1 h
    exact ⟨hi, by rw [e]; simpa using hb⟩

set_option maxHeartbeats 4000000 in
theorem drop_any (x : Int) (w : World) (base Bs : Nat) (most : Int) (v : Value) (l : List Mo) (S : List (Int × List Int)) (h : StAt w base Bs most v l S) (hR : RisS S) (hl : l.length ≤ 1000) (hbase : base ≤ w.heap.size) :
    Calls Try.prog 19 #[.pointer (some ⟨Bs, 0, none⟩), .int .i64 x] w fun e w' =>
      ((∀ k, (hk : k < S.length) → S[k].1 ≠ x) ∧ e = .returned (.int .i64 14) ∧ Below w.heap.size w w') ∨
      ∃ (i : Nat) (v' : Value) (l' : List Mo), (∃ hi : i < S.length, S[i].1 = x) ∧ e = .returned (.int .i64 0) ∧ StAt w' base Bs most v' l' (S.eraseIdx i) ∧ Below base w w' ∧ KeepS w w' ∧ fromL w l l' := by
  have HF := Lib.hid (find_any x w base Bs most v l S h hR hl)
  have HS := Lib.hid h
  have HRi := Lib.hid (h.rising hR)
  clear h hR
  go_enter Try.func19, Try.ntmps19
  go_wp2_with fail
  refine HF.out.mono ?_
  rintro e w1 ⟨i, rfl, hf, hb⟩
  have HB := Lib.hid hb
  have HFi := Lib.hid hf
  have HS1 := Lib.hid (HS.out.later hb)
  clear hf hb HF
  cases hh : hasAt l i x with
  | false =>
    have HN := Lib.hid (not_has HFi.out hh HRi.out)
    clear hh
    go_wp2_with fail
    go_ret
    refine .inl ⟨fun k hk => ?_, rfl, HB.out⟩
    have e := HS.out.len
    rw [← HS.out.ats k (by omega) hk]
    exact HN.out k (by omega)
  | true =>
    obtain ⟨hil, hix⟩ := has_at hh
    have HX := Lib.hid hix
    clear hh hix
    rcases HS1.out.row.2 with ⟨h1, h2⟩ | ⟨g, c, cur, rfl, h2, h3, h4, h5, h6, h7⟩
    · omega
    · have HD := Lib.hid (delete_any g c i base l w1 HS1.out.row hil hl HS1.out.sl)
      have c2 : w1.cell? ⟨Bs, 1, none⟩ = some (.slice (some ⟨g, 0, none⟩) l.length c) := by simp [World.cell?, HS1.out.at_]
      have hlt1 := HS1.out.lt
      clear h2 h3 h4 h5 h6 h7
      go_wp2_with fail
      refine HD.out.mono ?_
      rintro e w2 ⟨l', hl', rfl, hown, hgrow⟩
      obtain ⟨⟨f1, f2, f3⟩, hst, hks⟩ := HS1.out.turn hgrow hown (S' := S.eraseIdx i) (by
        rw [hl']
        exact HS1.out.prs.erase i)
      have HE : Hid (StAt _ _ _ _ _ _ _ ∧ KeepS _ _) := ⟨hst, hks⟩
      have hlt2 : Bs < w2.heap.size := Nat.lt_of_lt_of_le hlt1 hgrow.size
      have HB2 : Hid (Below base w w2) := (HB.out.mono hbase).grown hgrow (Nat.le_trans hbase HB.out.size) (fun k hk => (own_blk HS1.out.row k hk).1)
      have HFL : Hid (fromL w l l') := fun m hm => .inl ((List.eraseIdx_sublist l i).subset (by rw [← hl']; exact hm))
      clear hst hks hown hgrow hl' HD
      go_wp2_with fail
      go_ret
      refine .inr ⟨i, _, l', ⟨by have := HS.out.len; omega, ?_⟩, rfl, HE.out.1, HB2.out.setCell HS1.out.lb _, (KeepS.of_below HB.out).trans HE.out.2, HFL.out⟩
      rw [← HS.out.ats i hil (by have := HS.out.len; omega)]
      exact HX.out
end Go.Proofs.Ytmfhmegkgpaemaa
