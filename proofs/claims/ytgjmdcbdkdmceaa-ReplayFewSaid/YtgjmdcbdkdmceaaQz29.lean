/- Keep: Put, second part: a moment that is not there. -/
import Derived.Test.YtgjmdcbdkdmceaaQz28
import Derived.Deep.DeepCutAuto
namespace Go.Proofs.Ytgjmdcbdkdmceaa
open Go.RowKit

theorem bits_mask31 (x : Int) : bits .and .i64 x 2147483647 = x % 2147483648 := by
  have e : BitVec.toNat (BitVec.ofInt IntKind.i64.bits 2147483647) = 2 ^ 31 - 1 := by decide
  have e2 : BitVec.toNat (BitVec.ofInt IntKind.i64.bits x) = (x % 18446744073709551616).toNat := by
    rw [BitVec.toNat_ofInt]; rfl
  simp only [bits, BitVec.toNat_and, e, e2, Nat.and_two_pow_sub_one_eq_mod]
  rw [IntKind.wrap_i64]
  omega
theorem below_drewN {B : Nat} {a w : World} (h : Below B a w) (n : Nat) : Below B a (w.drewN n) := ⟨h.os, h.tape, h.output, h.size, h.block⟩
theorem lessS_full {most : Int} {S : Ms} {c : Int} (h : (S.length : Int) = most) : lessS most S c = S.eraseIdx (goN c S.length) := if_pos h
theorem lessS_no {most : Int} {S : Ms} {c : Int} (h : ¬ (S.length : Int) = most) : lessS most S c = S := if_neg h

theorem own_base {w : World} {base B : Nat} {q : Value} {pb : List Int} (h : ownB w B q pb) (hb : base ≤ B) : ownB w base q pb := by
  refine ⟨h.1, ?_⟩
  rcases h.2 with h | ⟨g', c', cur', e1, e2, e3⟩
  · exact .inl h
  · exact .inr ⟨g', c', cur', e1, Nat.le_trans hb e2, e3⟩
theorem clone_sp2 {pv : Value} {pb : List Int} {w1 : World} {Bs : Nat} {v : Value} (hp : RdB w1 pv pb) (hl : pb.length ≤ 1000000) (hB : Bs < w1.heap.size) :
    ∀ W, SPk w1 Bs Bs 1 v v W → Calls Try.prog 73 #[pv] W fun e w' => ∃ q, e = .returned q ∧ ownB w' w1.heap.size q pb ∧ w'.cell? ⟨Bs, 1, none⟩ = some v ∧ (∀ o, (w'.alloc o).cell? ⟨Bs, 1, none⟩ = some v) ∧ Hid (Below w1.heap.size w1 w') := fun W hW => by
  refine (clone_sp hp hl hB hB W hW).mono ?_
  rintro e w' ⟨q, rfl, hq, k0, k1, k2, k3⟩
  refine ⟨q, rfl, hq, k0, fun o => ?_, k3⟩
  have := k3.out.size
  rw [World.cell?_alloc_past _ _ _ (by show Bs < _; omega)]
  exact k0
theorem ins_sp {wc w4 : World} {base Bs j : Nat} {most x : Int} {v2 q : Value} {l2 : List Mo} {S2 : Ms} {pb : List Int} (hst : StAt wc base Bs most v2 l2 S2) (hf : FindAt l2 x j) (hn : ∀ k, (hk : k < l2.length) → l2[k].1 ≠ x) (hl2 : l2.length ≤ 1000) (hbase : base ≤ wc.heap.size) (hk : Below wc.heap.size wc w4) (hq : ownB w4 wc.heap.size q pb) :
    Calls Try.prog 76 #[v2, .int .i64 j, .slice (some ⟨w4.heap.size, 0, none⟩) 1 1] (w4.alloc (.cells #[.int .i64 x, q] 132 (0, 0))) fun e w' =>
      ∃ v', e = .returned v' ∧ (∃ a n c, v' = .slice a n c) ∧ w'.cell? ⟨Bs, 1, none⟩ = some v2 ∧ w'.frozen? ⟨Bs, 1, none⟩ = false ∧ Hid ((∃ l', StAt (w'.setCell ⟨Bs, 1, none⟩ v') base Bs most v' l' (insS S2 x pb) ∧ ∀ m ∈ l', m ∈ l2 ∨ m = (x, q)) ∧ KeepS wc (w'.setCell ⟨Bs, 1, none⟩ v') ∧ Below base wc w' ∧ KeepX wc (w'.setCell ⟨Bs, 1, none⟩ v') Bs v2 ∧ fromS wc v2 v') := by
  have hle := hk.size
  have hjl := hf.le
  have hlen := hst.len
  have hk2 : Below wc.heap.size wc (w4.alloc (.cells #[.int .i64 x, q] 132 (0, 0))) := hk.alloc hle _
  have hS := hst.later hk2
  have hq2 : ownB (w4.alloc (.cells #[.int .i64 x, q] 132 (0, 0))) base q pb := by
    refine own_same (own_base hq hbase) fun k hkk => ?_
    obtain ⟨_, cur, hc⟩ := own_blk hq k hkk
    exact Below.heap_alloc _ _ _ (Array.getElem?_eq_some_iff.1 hc).1
  refine (insert_any v2 j base w4.heap.size x q l2 _ hS.row hjl hl2 hS.sl hq2.slV (by simp; omega) (by show (w4.heap.push _)[_]? = _; simp) (fun k hkk => ?_)).mono ?_
  · obtain ⟨_, cur, hc⟩ := own_blk hst.row k hkk
    have := (Array.getElem?_eq_some_iff.1 hc).1
    omega
  · rintro e w' ⟨v', rfl, hown, hgrow, hfrom⟩
    have hp : Prs (w4.alloc (.cells #[.int .i64 x, q] 132 (0, 0))) base (l2.take j ++ (x, q) :: l2.drop j) (insS S2 x pb) := by
      rw [insS_at (i := j) (by omega)]
      · exact (hS.prs.take j).append ⟨⟨rfl, hq2⟩, hS.prs.drop j⟩
      · intro k hk1 hk2
        rw [← hst.ats k (by omega) hk1]
        exact hf.lo k (by omega) hk2
      · intro k hk1 hk2
        have h1 := hf.hi k (by omega) hk2
        have h2 := hn k (by omega)
        rw [← hst.ats k (by omega) hk1]
        omega
    obtain ⟨⟨f1, f2, f3⟩, hst2, hks⟩ := hS.turn hgrow hown hp
    obtain ⟨a, c, hsh⟩ := (Rd.of_own hown).shape
    refine ⟨v', rfl, ⟨_, _, _, hsh⟩, f2, f3, ⟨_, hst2, fun m hm => ?_⟩, (KeepS.of_below hk2).trans hks, ?_, KeepX.setCell ((KeepX.of_below hk2).trans (KeepX.of_grown hgrow) hk2.size rfl), ?_⟩
    · rcases List.mem_append.1 hm with h | h
      · exact .inl (List.mem_of_mem_take h)
      · rcases List.mem_cons.1 h with h | h
        · exact .inr h
        · exact .inl (List.mem_of_mem_drop h)
    · exact (hk2.mono hbase).grown hgrow (Nat.le_trans hbase hk2.size) (fun k hkk => (own_blk hst.row k hkk).1)
    · rcases hfrom with h | h
      · exact .inl h
      · exact .inr fun k hk => Nat.le_trans hk2.size (h k hk)

set_option maxHeartbeats 8000000 in
set_option maxRecDepth 100000 in
theorem put_new (x : Int) (pv : Value) (pb : List Int) (choice : Int) (w : World) (base Bs : Nat) (most : Int) (v : Value) (l : List Mo) (S : Ms) (h : StAt w base Bs most v l S) (hR : RisS S) (hl : l.length ≤ 1000) (hm : 1 ≤ most) (hpv : RdB w pv pb) (hpl : pb.length ≤ 1000000) (hx0 : 0 ≤ x) (hbase : base ≤ w.heap.size) (hch : -9223372036854775808 ≤ choice ∧ choice ≤ 9223372036854775807)
    (hpk : ∀ W, KeepS w W → RdB W pv pb) (hany : ∀ k, (hk : k < S.length) → S[k].1 ≠ x) :
    Calls Try.prog 55 #[.pointer (some ⟨Bs, 0, none⟩), .int .i64 x, pv, .int .i64 choice] w fun e w' =>
      e = .returned (.int .i64 0) ∧ ∃ v' l', StAt w' base Bs most v' l' (putS most S x pb choice) ∧ Below base w w' ∧ KeepS w w' ∧ KeepX w w' Bs v ∧ fromS w v v' ∧ fromL w l l' := by
  have HF := Lib.hid (find_any x w base Bs most v l S h hR hl)
  have HS := Lib.hid h
  have HRi := Lib.hid (h.rising hR)
  have HRs := Lib.hid hR
  have HPK := Lib.hid hpk
  have HNo := Lib.hid hany
  have hxx : decide (x < 0) = false := decide_eq_false (by omega)
  obtain ⟨pa, pc, rfl⟩ := Rd.shape hpv
  clear h hR hpv hpk hany
  go_enter Try.func55, Try.ntmps55
  go_wp2_with fail
  refine HF.out.mono ?_
  rintro e w1 ⟨i, rfl, hf, hb⟩
  have HB := Lib.hid hb
  have HFi := Lib.hid hf
  have HS1 := Lib.hid (HS.out.later hb)
  clear hf hb HF
  have hh : hasAt l i x = false := by
    cases hh : hasAt l i x with
    | false => rfl
    | true =>
      exfalso
      obtain ⟨hil, hix⟩ := has_at hh
      have hSi : i < S.length := by have := HS.out.len; omega
      exact HNo.out i hSi (by rw [← HS.out.ats i hil hSi]; exact hix)
  rw [hh]
  clear hh
  have c1 : ∀ d, (w1.drewN d).cell? ⟨Bs, 0, none⟩ = some (.int .i64 most) := fun d => by
    show w1.cell? _ = _
    simp [World.cell?, HS1.out.at_]
  have c2 : ∀ d, (w1.drewN d).cell? ⟨Bs, 1, none⟩ = some v := fun d => by
    show w1.cell? _ = _
    simp [World.cell?, HS1.out.at_]
  have c3 : w1.cell? ⟨Bs, 0, none⟩ = some (.int .i64 most) := c1 0
  have c4 : w1.cell? ⟨Bs, 1, none⟩ = some v := c2 0
  have hlt1 := HS1.out.lt
  obtain ⟨va, vc, rfl⟩ := (Rd.of_own HS1.out.row).shape
  go_wp2_with fail
  go_quiet (fail)
  go_upto_if 43 with fail
  go_cut [9, 3, 11] (fun s9 s3 s11 wx => ∃ (j : Nat) (v2 : Value) (l2 : List Mo), s9 = .int .i64 j ∧ Hid (StAt wx base Bs most v2 l2 (lessS most S choice)) ∧ Hid (FindAt l2 x j) ∧ Hid (∀ k, (hk : k < l2.length) → l2[k].1 ≠ x) ∧ l2.length ≤ 1000 ∧ Hid (Below base w wx) ∧ Hid (KeepS w wx) ∧ Hid (KeepX w wx Bs (.slice va l.length vc) ∧ v2.ownBlock = (Value.slice va l.length vc).ownBlock ∧ ∀ m ∈ l2, m ∈ l))
  case first =>
    by_cases hfull : (l.length : Int) = most
    · subst hfull
      have b1 : ((l.length : Int) == (l.length : Int)) = true := by simp
      have hSl := HS.out.len
      have hlp : 0 < l.length := by omega
      obtain ⟨k, hk⟩ : ∃ k, k = goN choice S.length := ⟨_, rfl⟩
      have hkl : k < l.length := by rw [hk, hSl]; exact goN_lt (by omega)
      obtain ⟨d, hd⟩ : ∃ d : Nat, (if choice < 0 then choice % 2147483648 else choice) = (d : Int) := ⟨(if choice < 0 then choice % 2147483648 else choice).toNat, by split <;> omega⟩
      have hdm : (d : Int) % (l.length : Int) = (k : Int) := by
        rw [hk]
        unfold goN
        rw [hd, ← hSl]
        exact (Int.toNat_of_nonneg (Int.emod_nonneg (d : Int) (show (l.length : Int) ≠ 0 by omega))).symm
      have HDM := Lib.hid hdm
      have HWK := Lib.hid (show wrap64 ((k : Int) + 1) = (k : Int) + 1 from IntWalk.wrap64_in _ (by omega))
      have hm0 : ((l.length : Int) == 0) = false := by rw [beq_eq_false_iff_ne]; omega
      have HK := Lib.hid hk
      have HSl := Lib.hid hSl
      rcases HS1.out.row.2 with ⟨h1, h2⟩ | ⟨g, c, cur, h1, h2, h3, h4, h5, h6, h7⟩
      · omega
      · simp only [Value.slice.injEq] at h1
        obtain ⟨rfl, -, rfl⟩ := h1
        have HSd : ∀ d, Hid (StAt (w1.drewN d) base Bs (l.length : Int) (.slice (some ⟨g, 0, none⟩) l.length vc) l S) := fun d => HS1.out.same (fun k _ => rfl)
        clear h2 h3 h4 h5 h6 h7 hk hSl hdm
        by_cases hneg : choice < 0
        all_goals
          simp only [hneg, if_true, if_false] at hd
          have hbt := bits_mask31 choice
          rw [hd] at hbt
          try subst hd
          go_wp2_with fail
          rw [HDM.out, HWK.out]
          refine (delete_any g vc k base l _ (HSd nq).out.row hkl hl (HSd nq).out.sl).mono ?_
          rintro e w2 ⟨l', hl', rfl, hown, hgrow⟩
          obtain ⟨⟨f1, f2, f3⟩, hst, hks⟩ := (HSd nq).out.turn hgrow hown (S' := S.eraseIdx k) (by
            rw [hl']
            exact (HSd nq).out.prs.erase k)
          have hll : l'.length ≤ 1000 := by rw [hl', List.length_eraseIdx, if_pos hkl]; omega
          have hlt2 : Bs < w2.heap.size := Nat.lt_of_lt_of_le hlt1 hgrow.size
          have HE := Lib.hid hst
          have HKS := Lib.hid hks
          have HGW := Lib.hid hgrow
          have hris : RisS (S.eraseIdx k) := by
            have := HRs.out
            rw [risS_iff] at this ⊢
            exact this.sublist (List.eraseIdx_sublist _ _)
          have HF2 := Lib.hid (find_any x _ base Bs _ _ l' (S.eraseIdx k) hst hris hll)
          have HRi2 := Lib.hid (hst.rising hris)
          have HBS : Hid (Below base w w2) := (below_drewN (HB.out.mono hbase) nq).grown hgrow (Nat.le_trans hbase HB.out.size) (fun z hz => (own_blk (HSd nq).out.row z hz).1)
          have HX2 : Hid (KeepX w (w2.setCell ⟨Bs, 1, none⟩ (.slice (some ⟨g, 0, none⟩) l'.length vc)) Bs (.slice (some ⟨g, 0, none⟩) l.length vc)) := KeepX.setCell ((KeepX.of_below (below_drewN HB.out nq)).trans (KeepX.of_grown (v := .slice (some ⟨g, 0, none⟩) l.length vc) hgrow) HB.out.size rfl)
          have HFL : Hid (∀ m ∈ l', m ∈ l) := fun m hm => (List.eraseIdx_sublist l k).subset (by rw [← hl']; exact hm)
          clear hst hks hown hgrow hris hl'
          go_wp2_with fail
          refine HF2.out.mono ?_
          rintro e w3 ⟨j, rfl, hf3, hb3⟩
          have HF3 := Lib.hid (And.intro hf3 hb3)
          have hno3 : ∀ q, (hq : q < l'.length) → l'[q].1 ≠ x := fun q hq => by
            have hlen := HE.out.len
            rw [HE.out.ats q hq (by omega)]
            have hmem : (S.eraseIdx k)[q]'(by omega) ∈ S := (List.eraseIdx_sublist S k).subset (List.getElem_mem _)
            obtain ⟨z, hz, e⟩ := List.getElem_of_mem hmem
            rw [← e]
            exact HNo.out z hz
          have HN3 := Lib.hid hno3
          clear hf3 hb3 hno3 HF2
          go_wp2_with fail
          go_meet
          have hle3 : base ≤ (w2.setCell ⟨Bs, 1, none⟩ (.slice (some ⟨g, 0, none⟩) l'.length vc)).heap.size := by
            rw [World.size_setCell]; exact Nat.le_trans hbase HBS.out.size
          refine ⟨j, .slice (some ⟨g, 0, none⟩) l'.length vc, l', rfl, ?_, HF3.out.1, HN3, hll, ?_, ?_, HX2.out.trans (KeepX.of_below HF3.out.2) (by rw [World.size_setCell]; exact Nat.le_trans HB.out.size HGW.out.size) rfl, rfl, HFL.out⟩
          · rw [lessS_full (by rw [HSl.out]), ← HK.out]
            exact HE.out.later HF3.out.2
          · exact (HBS.out.setCell HS1.out.lb _).trans (HF3.out.2.mono hle3)
          · exact ((KeepS.of_below HB.out).trans HKS.out).trans (KeepS.of_below HF3.out.2)
    · have b1 : ((l.length : Int) == most) = false := by simp [hfull]
      go_wp2_with fail
      go_meet
      refine ⟨i, .slice va l.length vc, l, rfl, ?_, HFi.out, ?_, hl, ?_, ?_, KeepX.of_below (below_drewN HB.out _), rfl, fun m hm => hm⟩
      · rw [lessS_no (by have := HS.out.len; omega)]
        exact HS1.out.same (fun k _ => rfl)
      · exact fun q hq => by
          have hlen := HS.out.len
          rw [HS.out.ats q hq (by omega)]
          exact HNo.out q (by omega)
      · exact below_drewN (HB.out.mono hbase) _
      · exact KeepS.of_below (below_drewN HB.out _)
  case rest =>
    obtain ⟨j, v2, l2, rfl, hst, hf2, hn2, hl2, hb2, hk2, hx2⟩ := hcut
    clear hlt1 c1 c2 c3 c4
    have hltx := hst.out.lt
    have cx : wc.cell? ⟨Bs, 1, none⟩ = some v2 := by simp [World.cell?, hst.out.at_]
    have fx : wc.frozen? ⟨Bs, 1, none⟩ = false := by simp [World.frozen?, hst.out.at_]
    have CL := Lib.hid (clone_sp2 (Bs := Bs) (v := v2) (HPK.out wc hk2.out) hpl hltx)
    have hS0 : SPk wc Bs Bs 1 v2 v2 wc.drew := ⟨cx, cx, fx, (Below.refl _ _).drew⟩
    obtain ⟨va2, vc2, rfl⟩ := (Rd.of_own hst.out.row).shape
    go_wp2_with fail
    go_region_with (first | (go_at_call 73; refine (CL.out _ hS0).mono ?_; rintro e w4 ⟨q, rfl, hq, k0, k1, k3⟩; obtain ⟨qa, qc, rfl⟩ := (Rd.of_own hq).shape) | (go_at_call 76; refine (ins_sp hst.out hf2.out hn2.out hl2 (Nat.le_trans hbase hb2.out.size) k3.out hq).mono ?_; rintro e w5 ⟨v5, rfl, ⟨a5, n5, c5, rfl⟩, f2, f3, HR5⟩))
    all_goals
      go_wp2_with fail
      go_ret
      obtain ⟨⟨l', r1, r6⟩, r2, r3, r4, r5⟩ := HR5.out
      have hput : putS most S x pb choice = insS (lessS most S choice) x pb := by
        unfold putS
        rw [if_neg]
        intro h
        rw [List.any_eq_true] at h
        obtain ⟨m, hm, e⟩ := h
        obtain ⟨z, hz, rfl⟩ := List.getElem_of_mem hm
        exact HNo.out z hz (by simpa using e)
      refine ⟨rfl, _, l', by rw [hput]; exact r1, (hb2.out.trans r3).setCell hst.out.lb _, hk2.out.trans r2, hx2.out.1.trans r4 hb2.out.size hx2.out.2.1, ?_, ?_⟩
      · rcases r5 with h | h
        · exact .inl (h.trans hx2.out.2.1)
        · exact .inr fun k hk => Nat.le_trans hb2.out.size (h k hk)
      · intro m hm
        rcases r6 m hm with h | rfl
        · exact .inl (hx2.out.2.2 m h)
        · exact .inr fun k hk => Nat.le_trans hb2.out.size (own_blk hq k hk).1

theorem put_any (x : Int) (pv : Value) (pb : List Int) (choice : Int) (w : World) (base Bs : Nat) (most : Int) (v : Value) (l : List Mo) (S : Ms) (h : StAt w base Bs most v l S) (hR : RisS S) (hl : l.length ≤ 1000) (hm : 1 ≤ most) (hpl : pb.length ≤ 1000000) (hx0 : 0 ≤ x) (hbase : base ≤ w.heap.size) (hch : -9223372036854775808 ≤ choice ∧ choice ≤ 9223372036854775807)
    (hpk : ∀ W, KeepS w W → RdB W pv pb) :
    Calls Try.prog 55 #[.pointer (some ⟨Bs, 0, none⟩), .int .i64 x, pv, .int .i64 choice] w fun e w' =>
      e = .returned (.int .i64 0) ∧ ∃ v' l', StAt w' base Bs most v' l' (putS most S x pb choice) ∧ Below base w w' ∧ KeepS w w' ∧ KeepX w w' Bs v ∧ fromS w v v' ∧ fromL w l l' := by
  have hpv := hpk w (KeepS.of_below (Below.refl _ _))
  by_cases hany : ∃ k, ∃ hk : k < S.length, S[k].1 = x
  · exact put_there x pv pb choice w base Bs most v l S h hR hl hpv hpl hx0 hbase hany
  · exact put_new x pv pb choice w base Bs most v l S h hR hl hm hpv hpl hx0 hbase hch hpk (fun k hk e => hany ⟨k, hk, e⟩)
theorem put_neg (x : Int) (pv : Value) (_pb : List Int) (choice : Int) (w : World) (Bs : Nat) (hx : x < 0) (hp : ∃ a n c, pv = .slice a n c) :
    Calls Try.prog 55 #[.pointer (some ⟨Bs, 0, none⟩), .int .i64 x, pv, .int .i64 choice] w fun e w' => e = .returned (.int .i64 1) ∧ w' = w := by
  have hxx : decide (x < 0) = true := decide_eq_true hx
  obtain ⟨pa, n, pc, rfl⟩ := hp
  go_enter Try.func55, Try.ntmps55
  go_wp2_with fail
  go_ret
  exact ⟨rfl, rfl⟩
end Go.Proofs.Ytgjmdcbdkdmceaa

/- Keep: a store without its row: what each call asks and leaves. -/
namespace Go.Proofs.Ytgjmdcbdkdmceaa
open Go.RowKit

def KSt (w : World) (base Bs : Nat) (most : Int) (S : Ms) : Prop := ∃ v l, StAt w base Bs most v l S
theorem KSt.later {w w' : World} {base Bs : Nat} {most : Int} {S : Ms} (h : KSt w base Bs most S) (hb : Below w.heap.size w w') : KSt w' base Bs most S := by
  obtain ⟨v, l, h⟩ := h
  exact ⟨v, l, h.later hb⟩
theorem KSt.lt {w : World} {base Bs : Nat} {most : Int} {S : Ms} (h : KSt w base Bs most S) : Bs < w.heap.size := by
  obtain ⟨v, l, h⟩ := h
  exact h.lt
theorem rd_one {w w' : World} {b : Int} (hk : KeepS (w.alloc (.cells #[.int .u8 b] 5)) w') : RdB w' (.slice (some ⟨w.heap.size, 0, none⟩) 1 1) [b] := by
  have h1 : (w.alloc (.cells #[.int .u8 b] 5)).heap[w.heap.size]? = some (.cells #[.int .u8 b] 5 (0, 0)) := by
    show (w.heap.push _)[_]? = _; simp
  have h2 := hk _ _ h1 (fun c f => cells_ne (by decide)) (fun c f => cells_ne (by decide))
  refine Rd.mk (by simp) (by simp) (by decide) (fun j hj => ?_)
  have : j = 0 := by simp at hj; omega
  subst this
  simp [World.cell?, h2]
theorem put_one (x b choice : Int) (w : World) (base Bs : Nat) (most : Int) (S : Ms) (h : KSt w base Bs most S) (hR : RisS S) (hl : S.length ≤ 1000) (hm : 1 ≤ most) (hx0 : 0 ≤ x) (hbase : base ≤ w.heap.size) (hch : -9223372036854775808 ≤ choice ∧ choice ≤ 9223372036854775807) :
    Calls Try.prog 55 #[.pointer (some ⟨Bs, 0, none⟩), .int .i64 x, .slice (some ⟨w.heap.size, 0, none⟩) 1 1, .int .i64 choice] (w.alloc (.cells #[.int .u8 b] 5)) fun e w' =>
      e = .returned (.int .i64 0) ∧ KSt w' base Bs most (putS most S x [b] choice) ∧ Below base w w' := by
  obtain ⟨v, l, h⟩ := h
  have hb : Below w.heap.size w (w.alloc (.cells #[.int .u8 b] 5)) := (Below.refl _ _).alloc (Nat.le_refl _) _
  refine (put_any x _ [b] choice _ base Bs most v l S (h.later hb) hR (by have := h.len; omega) hm (by simp) hx0 (Nat.le_trans hbase hb.size) hch (fun W hW => rd_one hW)).mono ?_
  rintro e w' ⟨rfl, v', l', h1, h2, -, -, -, -⟩
  exact ⟨rfl, ⟨v', l', h1⟩, (hb.mono hbase).trans h2⟩
theorem best_k (x : Int) (w : World) (base Bs : Nat) (most : Int) (S : Ms) (h : KSt w base Bs most S) (hR : RisS S) (hl : S.length ≤ 1000) (hbb : ∀ m ∈ S, m.2.length ≤ 1000000) :
    Calls Try.prog 51 #[.pointer (some ⟨Bs, 0, none⟩), .int .i64 x] w fun e w' =>
      ((∀ k, (hk : k < S.length) → x < S[k].1) ∧ e = .returned (.tuple #[.int .i64 0, .slice none 0 0, .bool false]) ∧ Below w.heap.size w w') ∨
      ∃ i, ∃ hi : i < S.length, S[i].1 ≤ x ∧ (∀ k, (hk : k < S.length) → i < k → x < S[k].1) ∧ ∃ q, e = .returned (.tuple #[.int .i64 S[i].1, q, .bool true]) ∧ ownB w' w.heap.size q S[i].2 ∧ Below w.heap.size w w' := by
  obtain ⟨v, l, h⟩ := h
  exact best_any x w base Bs most v l S h hR (by have := h.len; omega) hbb
theorem map_fst {w : World} {base Bs : Nat} {most : Int} {v : Value} {l : List Mo} {S : Ms} (h : StAt w base Bs most v l S) : l.map (·.1) = S.map (·.1) := by
  apply List.ext_getElem
  · simpa using h.len
  · intro k h1 h2
    simp only [List.getElem_map]
    exact h.ats k (by simpa using h1) (by simpa using h2)
theorem list_k (w : World) (base Bs : Nat) (most : Int) (S : Ms) (h : KSt w base Bs most S) (hl : S.length ≤ 1000) :
    Calls Try.prog 46 #[.pointer (some ⟨Bs, 0, none⟩)] w fun e w' => ∃ u, e = .returned u ∧ ownI w' w.heap.size u (S.map (·.1)) ∧ Below w.heap.size w w' := by
  obtain ⟨v, l, h⟩ := h
  rw [← map_fst h]
  exact list_any w base Bs most v l S h (by have := h.len; omega)
/-- What a put leaves, member by member. -/
theorem ins_len {S : Ms} {x : Int} {b : List Int} : (insS S x b).length ≤ S.length + 1 := by
  unfold insS
  rw [List.length_append, List.length_cons]
  have : ∀ L : Ms, (L.filter fun m => decide (m.1 < x)).length + (L.filter fun m => decide (x < m.1)).length ≤ L.length := by
    intro L
    induction L with
    | nil => simp
    | cons a L ih =>
      simp only [List.filter_cons, List.length_cons]
      by_cases h1 : a.1 < x
      · have h2 : ¬ x < a.1 := by omega
        simp [h1, h2]; omega
      · by_cases h2 : x < a.1
        · simp [h1, h2]; omega
        · simp [h1, h2]; omega
  have := this S
  omega
theorem less_len {most : Int} {S : Ms} {c : Int} (h : (S.length : Int) ≤ most) (hm : 1 ≤ most) : ((lessS most S c).length : Int) + 1 ≤ most := by
  unfold lessS
  split
  · rw [List.length_eraseIdx, if_pos (goN_lt (by omega))]; omega
  · omega
theorem put_len {most : Int} {S : Ms} {x : Int} {b : List Int} {c : Int} (h : (S.length : Int) ≤ most) (hm : 1 ≤ most) : ((putS most S x b c).length : Int) ≤ most := by
  unfold putS
  split
  · simpa using h
  · have h1 := less_len (c := c) h hm
    have h2 := ins_len (S := lessS most S c) (x := x) (b := b)
    omega
theorem put_mem {most : Int} {S : Ms} {x : Int} {b : List Int} {c : Int} : (x, b) ∈ putS most S x b c := by
  unfold putS
  split
  · rename_i h
    obtain ⟨m, hm, e⟩ := List.any_eq_true.1 h
    exact List.mem_map.2 ⟨m, hm, by rw [if_pos (by simpa using e)]⟩
  · unfold insS; simp
theorem less_sub {most : Int} {S : Ms} {c : Int} {m : Int × List Int} (h : m ∈ lessS most S c) : m ∈ S := by
  unfold lessS at h
  split at h
  · exact (List.eraseIdx_sublist _ _).subset h
  · exact h
theorem put_from {most : Int} {S : Ms} {x : Int} {b : List Int} {c : Int} {m : Int × List Int} (h : m ∈ putS most S x b c) : m = (x, b) ∨ (m ∈ S ∧ m.1 ≠ x) := by
  unfold putS at h
  split at h
  · obtain ⟨a, ha, e⟩ := List.mem_map.1 h
    split at e
    · exact .inl e.symm
    · rename_i hx; subst e; exact .inr ⟨ha, hx⟩
  · unfold insS at h
    rw [List.mem_append, List.mem_cons] at h
    rcases h with h | h | h
    · obtain ⟨h1, h2⟩ := List.mem_filter.1 h
      exact .inr ⟨less_sub h1, by have : m.1 < x := by simpa using h2
                                  omega⟩
    · exact .inl h
    · obtain ⟨h1, h2⟩ := List.mem_filter.1 h
      exact .inr ⟨less_sub h1, by have : x < m.1 := by simpa using h2
                                  omega⟩
theorem put_to {most : Int} {S : Ms} {x : Int} {b : List Int} {c : Int} {m : Int × List Int} (hf : ¬ (S.length : Int) = most) (h : m = (x, b) ∨ (m ∈ S ∧ m.1 ≠ x)) : m ∈ putS most S x b c := by
  rcases h with rfl | ⟨h1, h2⟩
  · exact put_mem
  · unfold putS
    split
    · exact List.mem_map.2 ⟨m, h1, if_neg h2⟩
    · rw [lessS_no hf]
      unfold insS
      rw [List.mem_append, List.mem_cons]
      by_cases h3 : m.1 < x
      · exact .inl (List.mem_filter.2 ⟨h1, by simpa using h3⟩)
      · exact .inr (.inr (List.mem_filter.2 ⟨h1, by simp; omega⟩))
/-- The greatest that is no greater. -/
theorem best_mem {S : Ms} (hR : RisS S) {x : Int} {b : List Int} (hm : (x, b) ∈ S) {i : Nat} (hi : i < S.length) (h1 : S[i].1 ≤ x) (h2 : ∀ k, (hk : k < S.length) → i < k → x < S[k].1) : S[i] = (x, b) := by
  obtain ⟨z, hz, e⟩ := List.getElem_of_mem hm
  rcases Nat.lt_trichotomy i z with h | h | h
  · have := h2 z hz h; rw [e] at this; simp at this
  · subst h; exact e
  · have := hR z i hz hi h; rw [e] at this; simp at this; omega
end Go.Proofs.Ytgjmdcbdkdmceaa
