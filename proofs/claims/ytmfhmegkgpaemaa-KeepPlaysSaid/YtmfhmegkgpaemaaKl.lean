/- Keep: Best. -/
import Derived.Test.YtmfhmegkgpaemaaKk
namespace Go.Proofs.Ytmfhmegkgpaemaa
open Go.RowKit

def SBk (w1 : World) (Bs g i : Nat) (v : Value) (x : Int) (p : Value) (W : World) : Prop :=
  W.cell? ⟨Bs, 1, none⟩ = some v ∧ W.cell? ⟨g, i * 2, none⟩ = some (.int .i64 x) ∧ W.cell? ⟨g, i * 2 + 1, none⟩ = some p ∧ Hid (Below w1.heap.size w1 W)

set_option maxHeartbeats 4000000 in
theorem best_any (x : Int) (w : World) (base Bs : Nat) (most : Int) (v : Value) (l : List Mo) (S : List (Int × List Int)) (h : StAt w base Bs most v l S) (hR : RisS S) (hl : l.length ≤ 1000) (hbb : ∀ m ∈ S, m.2.length ≤ 1000000) :
    Calls Try.prog 9 #[.pointer (some ⟨Bs, 0, none⟩), .int .i64 x] w fun e w' =>
      ((∀ k, (hk : k < S.length) → x < S[k].1) ∧ e = .returned (.tuple #[.int .i64 0, .slice none 0 0, .bool false]) ∧ Below w.heap.size w w') ∨
      ∃ i, ∃ hi : i < S.length, S[i].1 ≤ x ∧ (∀ k, (hk : k < S.length) → i < k → x < S[k].1) ∧ ∃ q, e = .returned (.tuple #[.int .i64 S[i].1, q, .bool true]) ∧ ownB w' w.heap.size q S[i].2 ∧ Below w.heap.size w w' := by
  have HF := Lib.hid (find_any x w base Bs most v l S h hR hl)
  have HS := Lib.hid h
  have HRi := Lib.hid (h.rising hR)
  have HBB := Lib.hid hbb
  clear h hR hbb
  go_enter Try.func9, Try.ntmps9
  go_wp2_with fail
  refine HF.out.mono ?_
  rintro e w1 ⟨i, rfl, hf, hb⟩
  have HB := Lib.hid hb
  have HFi := Lib.hid hf
  have HS1 := Lib.hid (HS.out.later hb)
  clear hf hb HF
  have hcase : (hasAt l i x = false ∧ i = 0) ∨ ∃ m, ∃ hm : m < l.length, l[m].1 ≤ x ∧ (∀ k, (hk : k < l.length) → m < k → x < l[k].1) ∧ ((hasAt l i x = true ∧ m = i) ∨ (hasAt l i x = false ∧ m + 1 = i)) := by
    cases hh : hasAt l i x with
    | true =>
      obtain ⟨hil, hix⟩ := has_at hh
      exact .inr ⟨i, hil, by omega, fun k hk hik => by have := HRi.out i k hil hk hik; omega, .inl ⟨rfl, rfl⟩⟩
    | false =>
      rcases Nat.eq_zero_or_pos i with h0 | h0
      · exact .inl ⟨rfl, h0⟩
      · have hle := HFi.out.le
        refine .inr ⟨i - 1, by omega, by have := HFi.out.lo (i - 1) (by omega) (by omega); omega, fun k hk hik => ?_, .inr ⟨rfl, by omega⟩⟩
        have h1 := HFi.out.hi k hk (by omega)
        have h2 := not_has HFi.out hh HRi.out k hk
        omega
  rcases hcase with ⟨hh, rfl⟩ | ⟨m, hm, hmx, hmk, hcs⟩
  · have HN := Lib.hid (not_has HFi.out hh HRi.out)
    rw [hh]
    clear hh
    go_wp2_with fail
    go_ret3
    refine .inl ⟨fun k hk => ?_, rfl, HB.out⟩
    have e := HS.out.len
    rw [← HS.out.ats k (by omega) hk]
    have h1 := HFi.out.hi k (by omega) (by omega)
    have h2 := HN.out k (by omega)
    omega
  · have HM := Lib.hid (And.intro hmx hmk)
    have hSm : m < S.length := by have := HS.out.len; omega
    rcases HS1.out.row.2 with ⟨h1, h2⟩ | ⟨g, c, cur, rfl, h2, h3, h4, h5, h6, h7⟩
    · omega
    · obtain ⟨d1, d2⟩ : w1.cell? ⟨g, m * 2, none⟩ = some (.int .i64 l[m].1) ∧ w1.cell? ⟨g, m * 2 + 1, none⟩ = some l[m].2 := by
        obtain ⟨e1, e2⟩ := cellsO_at l m hm
        have f1 := HS1.out.row.cells rfl _ _ e1
        have f2 := HS1.out.row.cells rfl _ _ e2
        rw [add_plain, Nat.zero_add] at f1 f2
        exact ⟨f1, f2⟩
      have c2 : w1.cell? ⟨Bs, 1, none⟩ = some (.slice (some ⟨g, 0, none⟩) l.length c) := by simp [World.cell?, HS1.out.at_]
      have hp := HS1.out.ps m hm hSm
      obtain ⟨pa, pc, hpp⟩ := (Rd.of_own hp).shape
      obtain ⟨y, hy⟩ : ∃ y, l[m].1 = y := ⟨_, rfl⟩
      have HY : Hid (y = S[m].1) := by rw [← hy]; exact HS1.out.ats m hm hSm
      rw [hpp] at hp d2
      rw [hy] at d1
      obtain ⟨pb, hpb⟩ : ∃ pb, pb = S[m].2 := ⟨_, rfl⟩
      have HPB := Lib.hid hpb
      have hpl : pb.length ≤ 1000000 := by rw [hpb]; exact HBB.out _ (List.getElem_mem hSm)
      rw [← hpb] at hp d2
      have hlt1 := HS1.out.lt
      have hglt : g < w1.heap.size := (Array.getElem?_eq_some_iff.1 h3).1
      have CL : Hid (∀ W, SBk w1 Bs g m (.slice (some ⟨g, 0, none⟩) l.length c) y (.slice pa pb.length pc) W → Calls Try.prog 15 #[.slice pa pb.length pc] W fun e w' => ∃ q, e = .returned q ∧ ownB w' w1.heap.size q pb ∧ SBk w1 Bs g m (.slice (some ⟨g, 0, none⟩) l.length c) y (.slice pa pb.length pc) w') := fun W hW => by
        refine (clone_any _ pb W (Rd.later (ownB.rd hp) hW.2.2.2.out) hpl).mono ?_
        rintro e w' ⟨q, rfl, hq, hb⟩
        have hle := hW.2.2.2.out.size
        refine ⟨q, rfl, ⟨hq.1, ?_⟩, ?_, ?_, ?_, hW.2.2.2.out.trans (hb.mono hle)⟩
        · rcases hq.2 with h | ⟨g', c', cur', e1, e2, e3⟩
          · exact .inl h
          · exact .inr ⟨g', c', cur', e1, by omega, e3⟩
        · rw [hb.cell (p := ⟨Bs, 1, none⟩) (by show Bs < _; omega)]; exact hW.1
        · rw [hb.cell (p := ⟨g, m * 2, none⟩) (by show g < _; omega)]; exact hW.2.1
        · rw [hb.cell (p := ⟨g, m * 2 + 1, none⟩) (by show g < _; omega)]; exact hW.2.2.1
      have hS0 : SBk w1 Bs g m (.slice (some ⟨g, 0, none⟩) l.length c) y (.slice pa pb.length pc) w1.drew := ⟨c2, d1, d2, (Below.refl _ _).drew⟩
      clear hp hpb hpp hy hmx hmk h2 h3 h4 h5 h6 h7
      rcases hcs with ⟨hh, rfl⟩ | ⟨hh, rfl⟩
      all_goals
        rw [hh]
        clear hh
        go_wp2_with fail
        go_region_held3 (fun W => W.cell? ⟨Bs, 1, none⟩ = some (.slice (some ⟨g, 0, none⟩) l.length c) ∧ W.cell? ⟨g, m * 2, none⟩ = some (.int .i64 y) ∧ W.cell? ⟨g, m * 2 + 1, none⟩ = some (.slice pa pb.length pc) ∧ Hid (Below w1.heap.size w1 W))
          (first | assumption | (exact ⟨k0, k1, k2, k3⟩))
          (first | (go_at_call 15; refine (CL.out _ (by assumption)).mono ?_; rintro e w4 ⟨q, rfl, hq, k0, k1, k2, k3⟩))
        all_goals
          go_wp2_with fail
          go_ret3
          refine .inr ⟨m, hSm, ?_, fun k hk hmk => ?_, q, by rw [← HY.out]; rfl, ?_, HB.out.trans (k3.out.mono HB.out.size)⟩
          · rw [← HS.out.ats m hm hSm]; exact HM.out.1
          · have e := HS.out.len
            rw [← HS.out.ats k (by omega) hk]; exact HM.out.2 k (by omega) hmk
          · rw [← HPB.out]
            refine ⟨hq.1, ?_⟩
            rcases hq.2 with h | ⟨g', c', cur', e1, e2, e3⟩
            · exact .inl h
            · exact .inr ⟨g', c', cur', e1, Nat.le_trans HB.out.size e2, e3⟩
end Go.Proofs.Ytmfhmegkgpaemaa
