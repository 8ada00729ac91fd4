/- Keep: Put, second part: a moment that is not there. -/
import Derived.Test.YtmfhmegkgpaemaaKn
import Derived.Deep.DeepCutAuto
namespace Go.Proofs.Ytmfhmegkgpaemaa
open Go.RowKit

theorem bits_mask31 (x : Int) : bits .and .i64 x 2147483647 = x % 2147483648 := by
  have e : BitVec.toNat (BitVec.ofInt IntKind.i64.bits 2147483647) = 2 ^ 31 - 1 := by decide
  have e2 : BitVec.toNat (BitVec.ofInt IntKind.i64.bits x) = (x % 18446744073709551616).toNat := by
    rw [BitVec.toNat_ofInt]; rfl
  simp only [bits, BitVec.toNat_and, e, e2, Nat.and_two_pow_sub_one_eq_mod]
  rw [IntKind.wrap_i64]
  omega
theorem below_drewN {B : Nat} {a w : World} (h : Below B a w) (n : Nat) : Below B a (w.drewN n) := ⟨h.os, h.tape, h.output, h.size, h.block⟩
theorem lessS_full {most : Int} {S : Ms} {c : Int} (h : (S.length : Int) = most) : lessS most S c = S.eraseIdx (goN c S.length) := if_pos h
theorem lessS_no {most : Int} {S : Ms} {c : Int} (h : ¬ (S.length : Int) = most) : lessS most S c = S := if_neg h

theorem own_base {w : World} {base B : Nat} {q : Value} {pb : List Int} (h : ownB w B q pb) (hb : base ≤ B) : ownB w base q pb := by
  refine ⟨h.1, ?_⟩
  rcases h.2 with h | ⟨g', c', cur', e1, e2, e3⟩
  · exact .inl h
  · exact .inr ⟨g', c', cur', e1, Nat.le_trans hb e2, e3⟩
theorem clone_sp2 {pv : Value} {pb : List Int} {w1 : World} {Bs : Nat} {v : Value} (hp : RdB w1 pv pb) (hl : pb.length ≤ 1000000) (hB : Bs < w1.heap.size) :
    ∀ W, SPk w1 Bs Bs 1 v v W → Calls Try.prog 15 #[pv] W fun e w' => ∃ q, e = .returned q ∧ ownB w' w1.heap.size q pb ∧ w'.cell? ⟨Bs, 1, none⟩ = some v ∧ (∀ o, (w'.alloc o).cell? ⟨Bs, 1, none⟩ = some v) ∧ Hid (Below w1.heap.size w1 w') := fun W hW => by
  refine (clone_sp hp hl hB hB W hW).mono ?_
  rintro e w' ⟨q, rfl, hq, k0, k1, k2, k3⟩
  refine ⟨q, rfl, hq, k0, fun o => ?_, k3⟩
  have := k3.out.size
  rw [World.cell?_alloc_past _ _ _ (by show Bs < _; omega)]
  exact k0
theorem ins_sp {wc w4 : World} {base Bs j : Nat} {most x : Int} {v2 q : Value} {l2 : List Mo} {S2 : Ms} {pb : List Int} (hst : StAt wc base Bs most v2 l2 S2) (hf : FindAt l2 x j) (hn : ∀ k, (hk : k < l2.length) → l2[k].1 ≠ x) (hl2 : l2.length ≤ 1000) (hbase : base ≤ wc.heap.size) (hk : Below wc.heap.size wc w4) (hq : ownB w4 wc.heap.size q pb) :
    Calls Try.prog 17 #[v2, .int .i64 j, .slice (some ⟨w4.heap.size, 0, none⟩) 1 1] (w4.alloc (.cells #[.int .i64 x, q] 56 (0, 0))) fun e w' =>
      ∃ v', e = .returned v' ∧ (∃ a n c, v' = .slice a n c) ∧ w'.cell? ⟨Bs, 1, none⟩ = some v2 ∧ w'.frozen? ⟨Bs, 1, none⟩ = false ∧ Hid ((∃ l', StAt (w'.setCell ⟨Bs, 1, none⟩ v') base Bs most v' l' (insS S2 x pb) ∧ ∀ m ∈ l', m ∈ l2 ∨ m = (x, q)) ∧ KeepS wc (w'.setCell ⟨Bs, 1, none⟩ v') ∧ Below base wc w' ∧ KeepX wc (w'.setCell ⟨Bs, 1, none⟩ v') Bs v2 ∧ fromS wc v2 v') := by
  have hle := hk.size
  have hjl := hf.le
  have hlen := hst.len
  have hk2 : Below wc.heap.size wc (w4.alloc (.cells #[.int .i64 x, q] 56 (0, 0))) := hk.alloc hle _
  have hS := hst.later hk2
  have hq2 : ownB (w4.alloc (.cells #[.int .i64 x, q] 56 (0, 0))) base q pb := by
    refine own_same (own_base hq hbase) fun k hkk => ?_
    obtain ⟨_, cur, hc⟩ := own_blk hq k hkk
    exact Below.heap_alloc _ _ _ (Array.getElem?_eq_some_iff.1 hc).1
  refine (insert_any v2 j base w4.heap.size x q l2 _ hS.row hjl hl2 hS.sl hq2.slV (by simp; omega) (by show (w4.heap.push _)[_]? = _; simp) (fun k hkk => ?_)).mono ?_
  · obtain ⟨_, cur, hc⟩ := own_blk hst.row k hkk
    have := (Array.getElem?_eq_some_iff.1 hc).1
    omega
  · rintro e w' ⟨v', rfl, hown, hgrow, hfrom⟩
    have hp : Prs (w4.alloc (.cells #[.int .i64 x, q] 56 (0, 0))) base (l2.take j ++ (x, q) :: l2.drop j) (insS S2 x pb) := by
      rw [insS_at (i := j) (by omega)]
      · exact (hS.prs.take j).append ⟨⟨rfl, hq2⟩, hS.prs.drop j⟩
      · intro k hk1 hk2
        rw [← hst.ats k (by omega) hk1]
        exact hf.lo k (by omega) hk2
      · intro k hk1 hk2
        have h1 := hf.hi k (by omega) hk2
        have h2 := hn k (by omega)
        rw [← hst.ats k (by omega) hk1]
        omega
    obtain ⟨⟨f1, f2, f3⟩, hst2, hks⟩ := hS.turn hgrow hown hp
    obtain ⟨a, c, hsh⟩ := (Rd.of_own hown).shape
    refine ⟨v', rfl, ⟨_, _, _, hsh⟩, f2, f3, ⟨_, hst2, fun m hm => ?_⟩, (KeepS.of_below hk2).trans hks, ?_, KeepX.setCell ((KeepX.of_below hk2).trans (KeepX.of_grown hgrow) hk2.size rfl), ?_⟩
    · rcases List.mem_append.1 hm with h | h
      · exact .inl (List.mem_of_mem_take h)
      · rcases List.mem_cons.1 h with h | h
        · exact .inr h
        · exact .inl (List.mem_of_mem_drop h)
    · exact (hk2.mono hbase).grown hgrow (Nat.le_trans hbase hk2.size) (fun k hkk => (own_blk hst.row k hkk).1)
    · rcases hfrom with h | h
      · exact .inl h
      · exact .inr fun k hk => Nat.le_trans hk2.size (h k hk)

set_option maxHeartbeats 8000000 in
set_option maxRecDepth 100000 in
theorem put_new (x : Int) (pv : Value) (pb : List Int) (choice : Int) (w : World) (base Bs : Nat) (most : Int) (v : Value) (l : List Mo) (S : Ms) (h : StAt w base Bs most v l S) (hR : RisS S) (hl : l.length ≤ 1000) (hm : 1 ≤ most) (hpv : RdB w pv pb) (hpl : pb.length ≤ 1000000) (hx0 : 0 ≤ x) (hbase : base ≤ w.heap.size) (hch : -9223372036854775808 ≤ choice ∧ choice ≤ 9223372036854775807)
    (hpk : ∀ W, KeepS w W → RdB W pv pb) (hany : ∀ k, (hk : k < S.length) → S[k].1 ≠ x) :
    Calls Try.prog 8 #[.pointer (some ⟨Bs, 0, none⟩), .int .i64 x, pv, .int .i64 choice] w fun e w' =>
      e = .returned (.int .i64 0) ∧ ∃ v' l', StAt w' base Bs most v' l' (putS most S x pb choice) ∧ Below base w w' ∧ KeepS w w' ∧ KeepX w w' Bs v ∧ fromS w v v' ∧ fromL w l l' := by
  have HF := Lib.hid (find_any x w base Bs most v l S h hR hl)
  have HS := Lib.hid h
  have HRi := Lib.hid (h.rising hR)
  have HRs := Lib.hid hR
  have HPK := Lib.hid hpk
  have HNo := Lib.hid hany
  have hxx : decide (x < 0) = false := decide_eq_false (by omega)
  obtain ⟨pa, pc, rfl⟩ := Rd.shape hpv
  clear h hR hpv hpk hany
  go_enter Try.func8, Try.ntmps8
  go_wp2_with fail
  refine HF.out.mono ?_
  rintro e w1 ⟨i, rfl, hf, hb⟩
  have HB := Lib.hid hb
  have HFi := Lib.hid hf
  have HS1 := Lib.hid (HS.out.later hb)
  clear hf hb HF
  have hh : hasAt l i x = false := by
    cases hh : hasAt l i x with
    | false => rfl
    | true =>
      exfalso
      obtain ⟨hil, hix⟩ := has_at hh
      have hSi : i < S.length := by have := HS.out.len; omega
      exact HNo.out i hSi (by rw [← HS.out.ats i hil hSi]; exact hix)
  rw [hh]
  clear hh
  have c1 : ∀ d, (w1.drewN d).cell? ⟨Bs, 0, none⟩ = some (.int .i64 most) := fun d => by
    show w1.cell? _ = _
    simp [World.cell?, HS1.out.at_]
  have c2 : ∀ d, (w1.drewN d).cell? ⟨Bs, 1, none⟩ = some v := fun d => by
    show w1.cell? _ = _
    simp [World.cell?, HS1.out.at_]
  have c3 : w1.cell? ⟨Bs, 0, none⟩ = some (.int .i64 most) := c1 0
  have c4 : w1.cell? ⟨Bs, 1, none⟩ = some v := c2 0
  have hlt1 := HS1.out.lt
  obtain ⟨va, vc, rfl⟩ := (Rd.of_own HS1.out.row).shape
  go_wp2_with fail
  go_quiet (fail)
  go_upto_if 43 with fail
  go_cut [9, 3, 11] (fun s9 s3 s11 wx => ∃ (j : Nat) (v2 : Value) (l2 : List Mo), s9 = .int .i64 j ∧ Hid (StAt wx base Bs most v2 l2 (lessS most S choice)) ∧ Hid (FindAt l2 x j) ∧ Hid (∀ k, (hk : k < l2.length) → l2[k].1 ≠ x) ∧ l2.length ≤ 1000 ∧ Hid (Below base w wx) ∧ Hid (KeepS w wx) ∧ Hid (KeepX w wx Bs (.slice va l.length vc) ∧ v2.ownBlock = (Value.slice va l.length vc).ownBlock ∧ ∀ m ∈ l2, m ∈ l))
  case first =>
    by_cases hfull : (l.length : Int) = most
    · subst hfull
      have b1 : ((l.length : Int) == (l.length : Int)) = true := by simp
      have hSl := HS.out.len
      have hlp : 0 < l.length := by omega
      obtain ⟨k, hk⟩ : ∃ k, k = goN choice S.length := ⟨_, rfl⟩
      have hkl : k < l.length := by rw [hk, hSl]; exact goN_lt (by omega)
      obtain ⟨d, hd⟩ : ∃ d : Nat, (if choice < 0 then choice % 2147483648 else choice) = (d : Int) := ⟨(if choice < 0 then choice % 2147483648 else choice).toNat, by split <;> omega⟩
      have hdm : (d : Int) % (l.length : Int) = (k : Int) := by
        rw [hk]
        unfold goN
        rw [hd, ← hSl]
        exact (Int.toNat_of_nonneg (Int.emod_nonneg (d : Int) (show (l.length : Int) ≠ 0 by omega))).symm
      have HDM := Lib.hid hdm
      have HWK := Lib.hid (show wrap64 ((k : Int) + 1) = (k : Int) + 1 from IntWalk.wrap64_in _ (by omega))
      have hm0 : ((l.length : Int) == 0) = false := by rw [beq_eq_false_iff_ne]; omega
      have HK := Lib.hid hk
      have HSl := Lib.hid hSl
      rcases HS1.out.row.2 with ⟨h1, h2⟩ | ⟨g, c, cur, h1, h2, h3, h4, h5, h6, h7⟩
      · omega
      · simp only [Value.slice.injEq] at h1
        obtain ⟨rfl, -, rfl⟩ := h1
        have HSd : ∀ d, Hid (StAt (w1.drewN d) base Bs (l.length : Int) (.slice (some ⟨g, 0, none⟩) l.length vc) l S) := fun d => HS1.out.same (fun k _ => rfl)
        clear h2 h3 h4 h5 h6 h7 hk hSl hdm
        by_cases hneg : choice < 0
        all_goals
          simp only [hneg, if_true, if_false] at hd
          have hbt := bits_mask31 choice
          rw [hd] at hbt
          try subst hd
          go_wp2_with fail
          rw [HDM.out, HWK.out]
          refine (delete_any g vc k base l _ (HSd nq).out.row hkl hl (HSd nq).out.sl).mono ?_
          rintro e w2 ⟨l', hl', rfl, hown, hgrow⟩
          obtain ⟨⟨f1, f2, f3⟩, hst, hks⟩ := (HSd nq).out.turn hgrow hown (S' := S.eraseIdx k) (by
            rw [hl']
            exact (HSd nq).out.prs.erase k)
          have hll : l'.length ≤ 1000 := by rw [hl', List.length_eraseIdx, if_pos hkl]; omega
          have hlt2 : Bs < w2.heap.size := Nat.lt_of_lt_of_le hlt1 hgrow.size
          have HE := Lib.hid hst
          have HKS := Lib.hid hks
          have HGW := Lib.hid hgrow
          have hris : RisS (S.eraseIdx k) := by
            have := HRs.out
            rw [risS_iff] at this ⊢
            exact this.sublist (List.eraseIdx_sublist _ _)
          have HF2 := Lib.hid (find_any x _ base Bs _ _ l' (S.eraseIdx k) hst hris hll)
          have HRi2 := Lib.hid (hst.rising hris)
          have HBS : Hid (Below base w w2) := (below_drewN (HB.out.mono hbase) nq).grown hgrow (Nat.le_trans hbase HB.out.size) (fun z hz => (own_blk (HSd nq).out.row z hz).1)
          have HX2 : Hid (KeepX w (w2.setCell ⟨Bs, 1, none⟩ (.slice (some ⟨g, 0, none⟩) l'.length vc)) Bs (.slice (some ⟨g, 0, none⟩) l.length vc)) := KeepX.setCell ((KeepX.of_below (below_drewN HB.out nq)).trans (KeepX.of_grown (v := .slice (some ⟨g, 0, none⟩) l.length vc) hgrow) HB.out.size rfl)
          have HFL : Hid (∀ m ∈ l', m ∈ l) := fun m hm => (List.eraseIdx_sublist l k).subset (by rw [← hl']; exact hm)
          clear hst hks hown hgrow hris hl'
          go_wp2_with fail
          refine HF2.out.mono ?_
          rintro e w3 ⟨j, rfl, hf3, hb3⟩
          have HF3 := Lib.hid (And.intro hf3 hb3)
          have hno3 : ∀ q, (hq : q < l'.length) → l'[q].1 ≠ x := fun q hq => by
            have hlen := HE.out.len
            rw [HE.out.ats q hq (by omega)]
            have hmem : (S.eraseIdx k)[q]'(by omega) ∈ S := (List.eraseIdx_sublist S k).subset (List.getElem_mem _)
            obtain ⟨z, hz, e⟩ := List.getElem_of_mem hmem
            rw [← e]
            exact HNo.out z hz
          have HN3 := Lib.hid hno3
          clear hf3 hb3 hno3 HF2
          go_wp2_with fail
          go_meet
          have hle3 : base ≤ (w2.setCell ⟨Bs, 1, none⟩ (.slice (some ⟨g, 0, none⟩) l'.length vc)).heap.size := by
            rw [World.size_setCell]; exact Nat.le_trans hbase HBS.out.size
          refine ⟨j, .slice (some ⟨g, 0, none⟩) l'.length vc, l', rfl, ?_, HF3.out.1, HN3, hll, ?_, ?_, HX2.out.trans (KeepX.of_below HF3.out.2) (by rw [World.size_setCell]; exact Nat.le_trans HB.out.size HGW.out.size) rfl, rfl, HFL.out⟩
          · rw [lessS_full (by rw [HSl.out]), ← HK.out]
            exact HE.out.later HF3.out.2
          · exact (HBS.out.setCell HS1.out.lb _).trans (HF3.out.2.mono hle3)
          · exact ((KeepS.of_below HB.out).trans HKS.out).trans (KeepS.of_below HF3.out.2)
    · have b1 : ((l.length : Int) == most) = false := by simp [hfull]
      go_wp2_with fail
      go_meet
      refine ⟨i, .slice va l.length vc, l, rfl, ?_, HFi.out, ?_, hl, ?_, ?_, KeepX.of_below (below_drewN HB.out _), rfl, fun m hm => hm⟩
      · rw [lessS_no (by have := HS.out.len; omega)]
        exact HS1.out.same (fun k _ => rfl)
      · exact fun q hq => by
          have hlen := HS.out.len
          rw [HS.out.ats q hq (by omega)]
          exact HNo.out q (by omega)
      · exact below_drewN (HB.out.mono hbase) _
      · exact KeepS.of_below (below_drewN HB.out _)
  case rest =>
    obtain ⟨j, v2, l2, rfl, hst, hf2, hn2, hl2, hb2, hk2, hx2⟩ := hcut
    clear hlt1 c1 c2 c3 c4
    have hltx := hst.out.lt
    have cx : wc.cell? ⟨Bs, 1, none⟩ = some v2 := by simp [World.cell?, hst.out.at_]
    have fx : wc.frozen? ⟨Bs, 1, none⟩ = false := by simp [World.frozen?, hst.out.at_]
    have CL := Lib.hid (clone_sp2 (Bs := Bs) (v := v2) (HPK.out wc hk2.out) hpl hltx)
    have hS0 : SPk wc Bs Bs 1 v2 v2 wc.drew := ⟨cx, cx, fx, (Below.refl _ _).drew⟩
    obtain ⟨va2, vc2, rfl⟩ := (Rd.of_own hst.out.row).shape
    go_wp2_with fail
    go_region_with (first | (go_at_call 15; refine (CL.out _ hS0).mono ?_; rintro e w4 ⟨q, rfl, hq, k0, k1, k3⟩; obtain ⟨qa, qc, rfl⟩ := (Rd.of_own hq).shape) | (go_at_call 17; refine (ins_sp hst.out hf2.out hn2.out hl2 (Nat.le_trans hbase hb2.out.size) k3.out hq).mono ?_; rintro e w5 ⟨v5, rfl, ⟨a5, n5, c5, rfl⟩, f2, f3, HR5⟩))
    all_goals
      go_wp2_with fail
      go_ret
      obtain ⟨⟨l', r1, r6⟩, r2, r3, r4, r5⟩ := HR5.out
      have hput : putS most S x pb choice = insS (lessS most S choice) x pb := by
        unfold putS
        rw [if_neg]
        intro h
        rw [List.any_eq_true] at h
        obtain ⟨m, hm, e⟩ := h
        obtain ⟨z, hz, rfl⟩ := List.getElem_of_mem hm
        exact HNo.out z hz (by simpa using e)
      refine ⟨rfl, _, l', by rw [hput]; exact r1, (hb2.out.trans r3).setCell hst.out.lb _, hk2.out.trans r2, hx2.out.1.trans r4 hb2.out.size hx2.out.2.1, ?_, ?_⟩
      · rcases r5 with h | h
        · exact .inl (h.trans hx2.out.2.1)
        · exact .inr fun k hk => Nat.le_trans hb2.out.size (h k hk)
      · intro m hm
        rcases r6 m hm with h | rfl
        · exact .inl (hx2.out.2.2 m h)
        · exact .inr fun k hk => Nat.le_trans hb2.out.size (own_blk hq k hk).1

theorem put_any (x : Int) (pv : Value) (pb : List Int) (choice : Int) (w : World) (base Bs : Nat) (most : Int) (v : Value) (l : List Mo) (S : Ms) (h : StAt w base Bs most v l S) (hR : RisS S) (hl : l.length ≤ 1000) (hm : 1 ≤ most) (hpl : pb.length ≤ 1000000) (hx0 : 0 ≤ x) (hbase : base ≤ w.heap.size) (hch : -9223372036854775808 ≤ choice ∧ choice ≤ 9223372036854775807)
    (hpk : ∀ W, KeepS w W → RdB W pv pb) :
    Calls Try.prog 8 #[.pointer (some ⟨Bs, 0, none⟩), .int .i64 x, pv, .int .i64 choice] w fun e w' =>
      e = .returned (.int .i64 0) ∧ ∃ v' l', StAt w' base Bs most v' l' (putS most S x pb choice) ∧ Below base w w' ∧ KeepS w w' ∧ KeepX w w' Bs v ∧ fromS w v v' ∧ fromL w l l' := by
  have hpv := hpk w (KeepS.of_below (Below.refl _ _))
  by_cases hany : ∃ k, ∃ hk : k < S.length, S[k].1 = x
  · exact put_there x pv pb choice w base Bs most v l S h hR hl hpv hpl hx0 hbase hany
  · exact put_new x pv pb choice w base Bs most v l S h hR hl hm hpv hpl hx0 hbase hch hpk (fun k hk e => hany ⟨k, hk, e⟩)
theorem put_neg (x : Int) (pv : Value) (pb : List Int) (choice : Int) (w : World) (Bs : Nat) (hx : x < 0) (hp : ∃ a n c, pv = .slice a n c) :
    Calls Try.prog 8 #[.pointer (some ⟨Bs, 0, none⟩), .int .i64 x, pv, .int .i64 choice] w fun e w' => e = .returned (.int .i64 1) ∧ w' = w := by
  have hxx : decide (x < 0) = true := decide_eq_true hx
  obtain ⟨pa, n, pc, rfl⟩ := hp
  go_enter Try.func8, Try.ntmps8
  go_wp2_with fail
  go_ret
  exact ⟨rfl, rfl⟩
end Go.Proofs.Ytmfhmegkgpaemaa
