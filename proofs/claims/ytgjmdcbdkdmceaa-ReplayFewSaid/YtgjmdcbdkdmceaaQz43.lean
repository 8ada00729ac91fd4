/- The document's machine: a call begins. -/
import Derived.Test.YtgjmdcbdkdmceaaQz37
import Derived.Test.YtgjmdcbdkdmceaaQz36
import Derived.Deep.OwnRows
import Derived.Laws.OwnMore
import Derived.Test.YtgjmdcbdkdmceaaQ16
import Derived.Deep.DeepCutAuto
import Derived.Deep.RegionHeld3
import Derived.Deep.RegionLaw
import Derived.StillTailTactics
namespace Go.Proofs.Ytgjmdcbdkdmceaa.Mach
open Go.RowKit

theorem info_C' : (Try.prog.info? 100).map (fun i => (i.zero, i.size, i.bytes)) = some (some (.agg #[.int .i64 0, .int .i64 0, .slice none 0 0, .slice none 0 0, .int .i64 0, .slice none 0 0, .slice none 0 0, .int .u8 0]), 8, 128) := by kernel_rfl
theorem info_C : ∃ x, Try.prog.info? 100 = some x ∧ x.zero = some (.agg #[.int .i64 0, .int .i64 0, .slice none 0 0, .slice none 0 0, .int .i64 0, .slice none 0 0, .slice none 0 0, .int .u8 0]) ∧ x.size = 8 ∧ x.bytes = 128 := parts' info_C'
theorem blk_ne' {w : World} {i j : Nat} {c c' : Array Value} {T T' : TypeId} {f f' : Nat × Nat} (h1 : w.heap[i]? = some (.cells c T f)) (h2 : w.heap[j]? = some (.cells c' T' f')) (h : T ≠ T') : i ≠ j := fun e => by subst e; rw [h1] at h2; cases h2; exact h rfl
/-- What a call's beginning leaves. -/
def BPost (w : World) (t : Nat → Nat) (base M : Nat) (E : Env) (cl : List (Fr × CV)) (g : Fr) (s : St) (mk : Bool) (w' : World) : Prop := ∃ t' V' cv, RRep w' t' base M E V' (cl ++ [(g, cv)]) { s with opn := s.opn ++ [g] } mk ∧ Fx w w' t t'

set_option maxRecDepth 100000 in
set_option maxHeartbeats 1000000 in
theorem rbegin_any (w : World) (t : Nat → Nat) (base M : Nat) (E : Env) (V : RV) (cl : List (Fr × CV)) (s : St) (mk : Bool) (h : RRep w t base M E V cl s mk) (hcl : cl.length ≤ 99) (fn : Nat) (hfn : fn < E.es.length) (args : List Int) (av : Value) (har : Row w t base 2 1 av args.length (intsV args) (9 + 4 * cl.length)) (dst : Int) :
    Calls Try.prog 30 #[.pointer (some ⟨M, 0, none⟩), .int .i64 fn, av, .int .u8 dst] w fun e w' => e = .returned (.tuple #[]) ∧ BPost w t base M E cl (newFr E fn args dst) s mk w' := by
  obtain ⟨eb, eo, ec, hev, he1, he2, hleb, -⟩ := h.env.ent (fn := (fn : Int)) (by omega) (by omega)
  rw [Int.toNat_natCast] at he1 he2
  have m1 : w.cell? ⟨M, 1, none⟩ = some (.slice (some ⟨eb, eo, none⟩) E.es.length ec) := (h.cellM 1).trans (by rw [(rC_get V s mk).2.1, hev])
  obtain ⟨oa, oc, hov, -, -⟩ := oshape h.ho.own
  have m6 : w.cell? ⟨M, 6, none⟩ = some (.slice oa cl.length oc) := (h.cellM 6).trans (by rw [(rC_get V s mk).2.2.2.2.1, hov])
  have z6 := h.frzM 6
  obtain ⟨aa, ac, hav, -, -⟩ := oshape har.own
  subst hav
  have hmk : ∀ W : World, (Instr.makeSlice 27 (.int .i64 16) (.int .i64 16)).run Try.prog W = .ok (.slice (some ⟨W.heap.size, 0, none⟩) 16 16) (W.alloc (.cells (madeCells #[.int .i64 0] 16) 2)) := fun W => run_make_row' (P := Try.prog) 27 2 (.int .i64 0) 8 Try.underlying27 info_i64' rfl .i64 .i64 16 (by omega) (by omega) W
  have hlM : M < w.heap.size := (Array.getElem?_eq_some_iff.1 h.hm).1
  have mixed : Try.prog.follows Departure.mixedOrders = true := by kernel_rfl
  have H := Lib.hid h
  have HA := Lib.hid har
  clear h har
  go_enter Try.func30, Try.ntmps30
  go_upto_region 0 with fail
  go_cut [8] (fun s8 wx => ∃ cb rb, s8 = .pointer (some ⟨cb, 0, none⟩) ∧ Hid (wx.heap[cb]? = some (.cells #[.int .i64 fn, .int .i64 0, .slice (some ⟨rb, 0, none⟩) 16 16, .slice none 0 0, .int .i64 (E.ent fn).1, .slice aa args.length ac, .slice none 0 0, .int .u8 dst] 100 (0, 0)) ∧
    wx.heap[rb]? = some (.cells (madeCells #[.int .i64 0] 16) 2 (0, 0)) ∧ w.heap.size ≤ cb ∧ w.heap.size ≤ rb ∧ Below w.heap.size w wx))
  case first =>
    go_region
    all_goals go_wp2_with fail
    all_goals go_meet
    · obtain ⟨x1, x2, x3⟩ := two_alloc w (madeCells #[.int .i64 0] 16) #[.int .i64 fn, .int .i64 0, .slice (some ⟨w.heap.size, 0, none⟩) 16 16, .slice none 0 0, .int .i64 (E.ent fn).1, .slice aa args.length ac, .slice none 0 0, .int .u8 dst] 2 100
      exact ⟨_, _, rfl, x2, x1, by omega, by omega, x3.drew⟩
    · obtain ⟨x1, x2, x3⟩ := two_alloc w #[.int .i64 fn, .int .i64 0, .slice (some ⟨w.heap.size + 1, 0, none⟩) 16 16, .slice none 0 0, .int .i64 (E.ent fn).1, .slice aa args.length ac, .slice none 0 0, .int .u8 dst] (madeCells #[.int .i64 0] 16) 100 2
      exact ⟨_, _, rfl, x1, x2, by omega, by omega, x3.drew⟩
  case rest =>
    obtain ⟨cb, rb, rfl, HC⟩ := hcut
    obtain ⟨w2, rfl⟩ : ∃ w2 : World, w2 = wc := ⟨_, rfl⟩
    obtain ⟨hcb, hrb, hcb0, hrb0, hb2⟩ := HC.out
    have hlcb : cb < w2.heap.size := (Array.getElem?_eq_some_iff.1 hcb).1
    have hlrb : rb < w2.heap.size := (Array.getElem?_eq_some_iff.1 hrb).1
    have m1' : w2.cell? ⟨M, 1, none⟩ = some (.slice (some ⟨eb, eo, none⟩) E.es.length ec) := (hb2.cell (p := ⟨M, 1, none⟩) hlM).trans m1
    have e2' : w2.cell? ⟨eb, eo + fn * 2 + 1, none⟩ = some (.int .i64 (E.ent fn).2) := (hb2.cell (p := ⟨eb, eo + fn * 2 + 1, none⟩) hleb).trans he2
    have HB2 := Lib.hid hb2
    have hlM2 : M < w2.heap.size := Nat.lt_of_lt_of_le hlM hb2.size
    have hleb2 : eb < w2.heap.size := Nat.lt_of_lt_of_le hleb hb2.size
    have nMC : ¬ M = cb := by omega
    have nCM : ¬ cb = M := by omega
    have HSL := Lib.hid (fun n => rslots_any M eb eo E.es.length ec fn (E.ent fn).2 (w2.drewN n) m1' hfn e2')
    have c3 : w2.cell? ⟨cb, 3, none⟩ = some (.slice none 0 0) := by simp [World.cell?, hcb]
    have zc3 : w2.frozen? ⟨cb, 3, none⟩ = false := by simp [World.frozen?, hcb]
    have HCB := Lib.hid hcb
    have HRB := Lib.hid hrb
    have hM0 := (H.out.cellM 6)
    clear hcb hrb hb2 HC m1 he1 he2 hmk m6 z6 hM0
    cases hb : slotsOk (E.ent fn).2
    case false =>
      simp only [hb] at HSL
      go_wp2_with fail
      refine (HSL.out 0).mono ?_
      rintro e w3 ⟨rfl, hw3⟩
      have hw3 := hw3.symm
      subst hw3
      have hn0 : slotsN (E.ent fn).2 = 0 := by simp [slotsN, hb]
      obtain ⟨H3', F3'⟩ := H.out.claim HB2.out hrb0 hlrb (c' := 7 + 4 * cl.length) (by omega)
      obtain ⟨t3, ht3⟩ : ∃ t3, t3 = upd t rb (7 + 4 * cl.length) := ⟨_, rfl⟩
      rw [← ht3] at H3' F3'
      have H3 := Lib.hid H3'
      have F3 := Lib.hid F3'
      obtain ⟨w3, rfl⟩ : ∃ w3 : World, w3 = w2 := ⟨_, rfl⟩
      have hbB : base ≤ w.heap.size := (H.out.ge M (by have := H.out.tm; omega)).2
      have HCR : Hid (CRep w3 t3 base cl.length (newFr E fn args dst, ⟨0, .slice (some ⟨rb, 0, none⟩) 16 16, .slice none 0 0, .slice aa args.length ac, .slice none 0 0⟩)) := by
        refine ⟨⟨row_of_made HRB.out (by omega) (by unfold maxLen; omega), fun k hk => ?_⟩, ?_, ?_, Row.nil _ _ _ _ _ _⟩
        · simp only [Value.ownBlock, Option.some.injEq] at hk
          rw [← hk, ht3, upd_at]
        · show Row w3 t3 base _ 1 (.slice none 0 0) (List.replicate (slotsN (E.ent fn).2) 0).length (intsV (List.replicate (slotsN (E.ent fn).2) 0)) _
          rw [hn0]
          exact Row.nil _ _ _ _ _ _
        · have := (HA.out.upd (c := 0) (c' := 7 + 4 * cl.length) (.inl hrb0) (by omega)).below HB2.out
          rw [ht3]; exact this
      have HC3 := HCB
      clear H3' F3'
      obtain ⟨cs, hcs⟩ : ∃ cs : Array Value, cs = #[.int .i64 fn, .int .i64 0, .slice (some ⟨rb, 0, none⟩) 16 16, .slice none 0 0, .int .i64 (E.ent fn).1, .slice aa args.length ac, .slice none 0 0, .int .u8 dst] := ⟨_, rfl⟩
      obtain ⟨iC, i1, i2, i3, i4⟩ := info_C
      have HI := Lib.hid (And.intro i1 (And.intro i2 (And.intro i3 i4)))
      have hho := H3.out.ho.own
      rw [hov] at hho
      have OA : Hid ((((w3.drewN 1).alloc (.cells #[.int .i64 fn, .int .i64 0, .slice (some ⟨rb, 0, none⟩) 16 16, .slice none 0 0, .int .i64 (E.ent fn).1, .slice aa args.length ac, .slice none 0 0, .int .u8 dst] 100))).ownsRow base 100 8 (.slice oa cl.length oc) cl.length (callsC cl)) := World.ownsRow.alloc (w := w3.drewN 1) hho _
      have RA : Hid (Rd (((w3.drewN 1).alloc (.cells #[.int .i64 fn, .int .i64 0, .slice (some ⟨rb, 0, none⟩) 16 16, .slice none 0 0, .int .i64 (E.ent fn).1, .slice aa args.length ac, .slice none 0 0, .int .u8 dst] 100))) 8 (.slice (some ⟨w3.heap.size, 0, none⟩) 1 1) 1 [.int .i64 fn, .int .i64 0, .slice (some ⟨rb, 0, none⟩) 16 16, .slice none 0 0, .int .i64 (E.ent fn).1, .slice aa args.length ac, .slice none 0 0, .int .u8 dst]) := lit_rd (w3.drewN 1) #[.int .i64 fn, .int .i64 0, .slice (some ⟨rb, 0, none⟩) 16 16, .slice none 0 0, .int .i64 (E.ent fn).1, .slice aa args.length ac, .slice none 0 0, .int .u8 dst] 8 _ rfl
      have hbs : base ≤ w3.heap.size := (H3.out.ge M (by have := H3.out.tm; omega)).2
      have BA : Hid (base ≤ (((w3.drewN 1).alloc (.cells #[.int .i64 fn, .int .i64 0, .slice (some ⟨rb, 0, none⟩) 16 16, .slice none 0 0, .int .i64 (E.ent fn).1, .slice aa args.length ac, .slice none 0 0, .int .u8 dst] 100))).heap.size) := by show _ ≤ ((w3.drewN 1).alloc _).heap.size; simp; exact Nat.le_succ_of_le hbs
      have y1 : cl.length + 1 ≤ maxLen := by unfold maxLen; omega
      have y2 : (cl.length + 1) * 128 ≤ 140737488355328 := by omega
      have ho1 : ∀ u ∈ [.int .i64 fn, .int .i64 0, .slice (some ⟨rb, 0, none⟩) 16 16, .slice none 0 0, .int .i64 (E.ent fn).1, .slice aa args.length ac, .slice none 0 0, .int .u8 dst], Value.oneCell' u = true := by
        intro u hu
        simp only [List.mem_cons, List.not_mem_nil, or_false] at hu
        rcases hu with rfl | rfl | rfl | rfl | rfl | rfl | rfl | rfl <;> rfl
      have HO1 := Lib.hid ho1
      have htg := H3.out.ho.tag
      rw [hov] at htg
      have HTG := Lib.hid htg
      have h2c : 2 < 4 := by omega
      have m63 : w3.cell? ⟨M, 6, none⟩ = some (.slice oa cl.length oc) := (H3.out.cellM 6).trans (by rw [(rC_get V s mk).2.2.2.2.1, hov])
      have z63 := H3.out.frzM 6
      have m6A := fun o => cellA m63 1 o
      have hlM3 : M < w3.heap.size := (Array.getElem?_eq_some_iff.1 H3.out.hm).1
      have k0 : w3.cell? ⟨cb, 0, none⟩ = some (.int .i64 fn) := by simp [World.cell?, HC3.out]
      have k1 : w3.cell? ⟨cb, 1, none⟩ = some (.int .i64 0) := by simp [World.cell?, HC3.out]
      have k2 : w3.cell? ⟨cb, 2, none⟩ = some (.slice (some ⟨rb, 0, none⟩) 16 16) := by simp [World.cell?, HC3.out]
      have k3 : w3.cell? ⟨cb, 3, none⟩ = some (.slice none 0 0) := by simp [World.cell?, HC3.out]
      have k4 : w3.cell? ⟨cb, 4, none⟩ = some (.int .i64 (E.ent fn).1) := by simp [World.cell?, HC3.out]
      have k5 : w3.cell? ⟨cb, 5, none⟩ = some (.slice aa args.length ac) := by simp [World.cell?, HC3.out]
      have k6 : w3.cell? ⟨cb, 6, none⟩ = some (.slice none 0 0) := by simp [World.cell?, HC3.out]
      have k7 : w3.cell? ⟨cb, 7, none⟩ = some (.int .u8 dst) := by simp [World.cell?, HC3.out]
      clear hho htg i1 i2 i3 i4 hcs ho1 c3 zc3
      go_wp2_with fail
      go_region_law_o (refine step_append_f rfl _ _ 63 rfl base 100 iC (.agg #[.int .i64 0, .int .i64 0, .slice none 0 0, .slice none 0 0, .int .i64 0, .slice none 0 0, .slice none 0 0, .int .u8 0]) 8 128 Try.underlying63 HI.out.1 HI.out.2.1 HI.out.2.2.1 HI.out.2.2.2 rfl (by decide) _ cl.length (callsC cl) rfl OA.out _ 1 [.int .i64 fn, .int .i64 0, .slice (some ⟨rb, 0, none⟩) 16 16, .slice none 0 0, .int .i64 (E.ent fn).1, .slice aa args.length ac, .slice none 0 0, .int .u8 dst] rfl RA.out HO1.out y1 y2 BA.out ?_; intro v' w7 hown7 hgrow7 hfr7; obtain ⟨va7, vc7, rfl, -, -⟩ := oshape hown7; have TR := Lib.hid (Trn.appN (t := t3) (c := 4) (base := base) 1 _ hgrow7 HTG.out hfr7 hown7 h2c hbs); have HNW := Lib.hid (H3.out.push TR.out (p := (newFr E fn args dst, ⟨0, .slice (some ⟨rb, 0, none⟩) 16 16, .slice none 0 0, .slice aa args.length ac, .slice none 0 0⟩)) ⟨by rw [callsC_snoc]; exact hown7, updV_self _ _ _⟩ (CRep.trn HCR.out TR.out (.inl (by omega)))); have hbO := (TR.out.blks M hlM3 (by have := H3.out.tm; omega)).1; have m6' := (World.cell?_of_block (a := ⟨M, 6, none⟩) hbO).trans m63; have z6' := (World.frozen?_of_block (a := ⟨M, 6, none⟩) hbO).trans z63; clear hbO hown7 hgrow7 hfr7)
      all_goals
        go_wp2_with fail
        refine bodyPost_end (results_none rfl _ _ _) rfl ⟨rfl, ?_⟩
        exact ⟨_, _, _, HNW.out.1, F3.out.trans HNW.out.2⟩
    case true =>
      simp only [hb] at HSL
      obtain ⟨nS, hnS⟩ : ∃ n : Nat, (E.ent fn).2 = n := ⟨(E.ent fn).2.toNat, by simp [slotsOk] at hb; omega⟩
      have hnSl : nS ≤ 60000 := by simp [slotsOk] at hb; omega
      have hn0 : slotsN (E.ent fn).2 = nS := by simp only [slotsN, hb, if_true]; rw [hnS, Int.toNat_natCast]
      have hmkS : ∀ W : World, (Instr.makeSlice 27 (.int .i64 nS) (.int .i64 nS)).run Try.prog W = .ok (.slice (some ⟨W.heap.size, 0, none⟩) nS nS) (W.alloc (.cells (madeCells #[.int .i64 0] nS) 2)) := fun W => run_make_row' (P := Try.prog) 27 2 (.int .i64 0) 8 Try.underlying27 info_i64' rfl .i64 .i64 nS (by omega) (by omega) W
      rw [hnS] at e2'
      have c3A := fun n o => cellA c3 n o
      have z3A := fun n o => frzA c3 zc3 n o
      go_wp2_with fail
      refine (HSL.out 0).mono ?_
      rintro e w2' ⟨rfl, hw3⟩
      have hw3 := hw3.symm
      subst hw3
      go_wp2_with fail
      obtain ⟨w3, hw3⟩ : ∃ w3, w3 = (((w2.drewN 0).alloc (.cells (madeCells #[.int .i64 0] nS) 2)).setCell ⟨cb, 3, none⟩ (.slice (some ⟨w2.heap.size, 0, none⟩) nS nS)) := ⟨_, rfl⟩
      rw [← hw3]
      have hq : Below w2.heap.size w2 ((w2.drewN 0).alloc (.cells (madeCells #[.int .i64 0] nS) 2)) := (show Below w2.heap.size w2 (w2.drewN 0) from ⟨rfl, rfl, rfl, Nat.le_refl _, fun _ _ => rfl⟩).alloc (Nat.le_refl _) _
      have HB3 : Hid (Below w.heap.size w w3) := by rw [hw3]; exact (HB2.out.trans (hq.mono HB2.out.size)).setCell hcb0 _
      have hsz3 : w3.heap.size = w2.heap.size + 1 := by
        rw [hw3, World.size_setCell]
        show ((w2.drewN 0).heap.push _).size = _
        simp
      have HC3 : Hid (w3.heap[cb]? = some (.cells #[.int .i64 fn, .int .i64 0, .slice (some ⟨rb, 0, none⟩) 16 16, .slice (some ⟨w2.heap.size, 0, none⟩) nS nS, .int .i64 (E.ent fn).1, .slice aa args.length ac, .slice none 0 0, .int .u8 dst] 100 (0, 0))) := by
        have h5 := (hq.block cb hlcb).trans HCB.out
        rw [hw3]
        exact (heap_set h5 3 _).trans (by simp)
      have HRB3 : w3.heap[rb]? = some (.cells (madeCells #[.int .i64 0] 16) 2 (0, 0)) := by
        rw [hw3, Below.heap_setCell _ _ _ _ (blk_ne' HRB.out HCB.out (by decide))]
        exact (hq.block rb hlrb).trans HRB.out
      have HSB3 : w3.heap[w2.heap.size]? = some (.cells (madeCells #[.int .i64 0] nS) 2 (0, 0)) := by
        rw [hw3, Below.heap_setCell _ _ _ _ (by show w2.heap.size ≠ cb; omega)]
        exact heap_alloc_new (w2.drewN 0) _
      have nsr : w2.heap.size ≠ rb := by omega
      obtain ⟨t3, ht3⟩ : ∃ t3, t3 = upd (upd t rb (7 + 4 * cl.length)) w2.heap.size (8 + 4 * cl.length) := ⟨_, rfl⟩
      have hsz2 := HB2.out.size
      have ht1 : ∀ k, k < w.heap.size → t3 k = t k := fun k hk => by rw [ht3, upd_ne (by omega), upd_ne (by omega)]
      obtain ⟨H3', F3'⟩ := H.out.claimT HB3.out ht1 (fun k hk => by
        by_cases e1 : k = w2.heap.size
        · omega
        · by_cases e2 : k = rb
          · omega
          · rw [ht3, upd_ne e1, upd_ne e2] at hk
            have := H.out.lt k hk
            omega)
      have H3 := Lib.hid H3'
      have F3 := Lib.hid F3'
      have hbB : base ≤ w.heap.size := (H.out.ge M (by have := H.out.tm; omega)).2
      have HCR : Hid (CRep w3 t3 base cl.length (newFr E fn args dst, ⟨0, .slice (some ⟨rb, 0, none⟩) 16 16, .slice (some ⟨w2.heap.size, 0, none⟩) nS nS, .slice aa args.length ac, .slice none 0 0⟩)) := by
        refine ⟨⟨row_of_made HRB3 (by omega) (by unfold maxLen; omega), fun k hk => ?_⟩, ?_, Row.claimT HA.out HB3.out ht1, Row.nil _ _ _ _ _ _⟩
        · simp only [Value.ownBlock, Option.some.injEq] at hk
          rw [← hk, ht3, upd_ne (Ne.symm nsr), upd_at]
        · show Row w3 t3 base _ 1 (.slice (some ⟨w2.heap.size, 0, none⟩) nS nS) (List.replicate (slotsN (E.ent fn).2) 0).length (intsV (List.replicate (slotsN (E.ent fn).2) 0)) _
          rw [hn0, List.length_replicate]
          exact ⟨row_of_made HSB3 (by omega) (by unfold maxLen; omega), fun k hk => by
            simp only [Value.ownBlock, Option.some.injEq] at hk
            rw [← hk, ht3, upd_at]⟩
      have nMC3 : ¬ M = cb := by omega
      clear H3' F3' HRB3 HSB3 hw3 hq c3A z3A ht3 ht1 e2' m1' hsz3
      obtain ⟨cs, hcs⟩ : ∃ cs : Array Value, cs = #[.int .i64 fn, .int .i64 0, .slice (some ⟨rb, 0, none⟩) 16 16, .slice (some ⟨w2.heap.size, 0, none⟩) nS nS, .int .i64 (E.ent fn).1, .slice aa args.length ac, .slice none 0 0, .int .u8 dst] := ⟨_, rfl⟩
      obtain ⟨iC, i1, i2, i3, i4⟩ := info_C
      have HI := Lib.hid (And.intro i1 (And.intro i2 (And.intro i3 i4)))
      have hho := H3.out.ho.own
      rw [hov] at hho
      have OA : Hid (((w3.alloc (.cells #[.int .i64 fn, .int .i64 0, .slice (some ⟨rb, 0, none⟩) 16 16, .slice (some ⟨w2.heap.size, 0, none⟩) nS nS, .int .i64 (E.ent fn).1, .slice aa args.length ac, .slice none 0 0, .int .u8 dst] 100)).drew).ownsRow base 100 8 (.slice oa cl.length oc) cl.length (callsC cl)) := hho.alloc _
      have RA : Hid (Rd ((w3.alloc (.cells #[.int .i64 fn, .int .i64 0, .slice (some ⟨rb, 0, none⟩) 16 16, .slice (some ⟨w2.heap.size, 0, none⟩) nS nS, .int .i64 (E.ent fn).1, .slice aa args.length ac, .slice none 0 0, .int .u8 dst] 100)).drew) 8 (.slice (some ⟨w3.heap.size, 0, none⟩) 1 1) 1 [.int .i64 fn, .int .i64 0, .slice (some ⟨rb, 0, none⟩) 16 16, .slice (some ⟨w2.heap.size, 0, none⟩) nS nS, .int .i64 (E.ent fn).1, .slice aa args.length ac, .slice none 0 0, .int .u8 dst]) := lit_rd w3 #[.int .i64 fn, .int .i64 0, .slice (some ⟨rb, 0, none⟩) 16 16, .slice (some ⟨w2.heap.size, 0, none⟩) nS nS, .int .i64 (E.ent fn).1, .slice aa args.length ac, .slice none 0 0, .int .u8 dst] 8 _ rfl
      have hbs : base ≤ w3.heap.size := (H3.out.ge M (by have := H3.out.tm; omega)).2
      have BA : Hid (base ≤ ((w3.alloc (.cells #[.int .i64 fn, .int .i64 0, .slice (some ⟨rb, 0, none⟩) 16 16, .slice (some ⟨w2.heap.size, 0, none⟩) nS nS, .int .i64 (E.ent fn).1, .slice aa args.length ac, .slice none 0 0, .int .u8 dst] 100)).drew).heap.size) := by show _ ≤ (w3.alloc _).heap.size; simp; exact Nat.le_succ_of_le hbs
      have y1 : cl.length + 1 ≤ maxLen := by unfold maxLen; omega
      have y2 : (cl.length + 1) * 128 ≤ 140737488355328 := by omega
      have ho1 : ∀ u ∈ [.int .i64 fn, .int .i64 0, .slice (some ⟨rb, 0, none⟩) 16 16, .slice (some ⟨w2.heap.size, 0, none⟩) nS nS, .int .i64 (E.ent fn).1, .slice aa args.length ac, .slice none 0 0, .int .u8 dst], Value.oneCell' u = true := by
        intro u hu
        simp only [List.mem_cons, List.not_mem_nil, or_false] at hu
        rcases hu with rfl | rfl | rfl | rfl | rfl | rfl | rfl | rfl <;> rfl
      have HO1 := Lib.hid ho1
      have htg := H3.out.ho.tag
      rw [hov] at htg
      have HTG := Lib.hid htg
      have h2c : 2 < 4 := by omega
      have m63 : w3.cell? ⟨M, 6, none⟩ = some (.slice oa cl.length oc) := (H3.out.cellM 6).trans (by rw [(rC_get V s mk).2.2.2.2.1, hov])
      have z63 := H3.out.frzM 6
      have m6A := fun o => cellA m63 0 o
      have hlM3 : M < w3.heap.size := (Array.getElem?_eq_some_iff.1 H3.out.hm).1
      have k0 : w3.cell? ⟨cb, 0, none⟩ = some (.int .i64 fn) := by simp [World.cell?, HC3.out]
      have k1 : w3.cell? ⟨cb, 1, none⟩ = some (.int .i64 0) := by simp [World.cell?, HC3.out]
      have k2 : w3.cell? ⟨cb, 2, none⟩ = some (.slice (some ⟨rb, 0, none⟩) 16 16) := by simp [World.cell?, HC3.out]
      have k3 : w3.cell? ⟨cb, 3, none⟩ = some (.slice (some ⟨w2.heap.size, 0, none⟩) nS nS) := by simp [World.cell?, HC3.out]
      have k4 : w3.cell? ⟨cb, 4, none⟩ = some (.int .i64 (E.ent fn).1) := by simp [World.cell?, HC3.out]
      have k5 : w3.cell? ⟨cb, 5, none⟩ = some (.slice aa args.length ac) := by simp [World.cell?, HC3.out]
      have k6 : w3.cell? ⟨cb, 6, none⟩ = some (.slice none 0 0) := by simp [World.cell?, HC3.out]
      have k7 : w3.cell? ⟨cb, 7, none⟩ = some (.int .u8 dst) := by simp [World.cell?, HC3.out]
      clear hho htg i1 i2 i3 i4 hcs ho1 c3 zc3
      go_wp2_with fail
      go_region_law_o (refine step_append_f rfl _ _ 63 rfl base 100 iC (.agg #[.int .i64 0, .int .i64 0, .slice none 0 0, .slice none 0 0, .int .i64 0, .slice none 0 0, .slice none 0 0, .int .u8 0]) 8 128 Try.underlying63 HI.out.1 HI.out.2.1 HI.out.2.2.1 HI.out.2.2.2 rfl (by decide) _ cl.length (callsC cl) rfl OA.out _ 1 [.int .i64 fn, .int .i64 0, .slice (some ⟨rb, 0, none⟩) 16 16, .slice (some ⟨w2.heap.size, 0, none⟩) nS nS, .int .i64 (E.ent fn).1, .slice aa args.length ac, .slice none 0 0, .int .u8 dst] rfl RA.out HO1.out y1 y2 BA.out ?_; intro v' w7 hown7 hgrow7 hfr7; obtain ⟨va7, vc7, rfl, -, -⟩ := oshape hown7; have TR := Lib.hid (Trn.appD (t := t3) (c := 4) (base := base) _ hgrow7 HTG.out hfr7 hown7 h2c hbs); have HNW := Lib.hid (H3.out.push TR.out (p := (newFr E fn args dst, ⟨0, .slice (some ⟨rb, 0, none⟩) 16 16, .slice (some ⟨w2.heap.size, 0, none⟩) nS nS, .slice aa args.length ac, .slice none 0 0⟩)) ⟨by rw [callsC_snoc]; exact hown7, updV_self _ _ _⟩ (CRep.trn HCR.out TR.out (.inl (by omega)))); have hbO := (TR.out.blks M hlM3 (by have := H3.out.tm; omega)).1; have m6' := (World.cell?_of_block (a := ⟨M, 6, none⟩) hbO).trans m63; have z6' := (World.frozen?_of_block (a := ⟨M, 6, none⟩) hbO).trans z63; clear hbO hown7 hgrow7 hfr7)
      all_goals
        go_wp2_with fail
        refine bodyPost_end (results_none rfl _ _ _) rfl ⟨rfl, ?_⟩
        exact ⟨_, _, _, HNW.out.1, F3.out.trans HNW.out.2⟩
end Go.Proofs.Ytgjmdcbdkdmceaa.Mach

/- The document's machine: at its beginning. -/
namespace Go.Proofs.Ytgjmdcbdkdmceaa.Mach
open Go.RowKit

theorem rnew_none (w : World) (wv ev dv iv : Value) (m : Int) (el : List (Int × Int)) (he : Rd w 2 ev el.length (entC el)) (hm : m < 0 ∨ (el.length : Int) ≤ m) :
    Calls Try.prog 9 #[.agg #[wv, ev, .int .i64 m, dv], iv] w fun e w' => e = .returned (.pointer none) ∧ Below w.heap.size w w' := by
  obtain ⟨ea, ec, rfl⟩ := Rd.shape he
  clear he
  go_enter Try.func9, Try.ntmps9
  by_cases h0 : m < 0
  · go_wp2_with fail
    go_ret
    exact ⟨rfl, (Below.refl _ _).alloc (Nat.le_refl _) _⟩
  · have h1 : (el.length : Int) ≤ m := by omega
    go_wp2_with fail
    go_ret
    exact ⟨rfl, (Below.refl _ _).alloc (Nat.le_refl _) _⟩
/-- A machine, none of whose calls are open. -/
def noSt : St := ⟨0, 0, 0, [], 0, 0, 0, [], []⟩
def NPost0 (b : Nat) (w : World) (E : Env) (m : Int) (e : Ending) (w' : World) : Prop :=
  ∃ M t V cl, e = .returned (.pointer (some ⟨M, 0, none⟩)) ∧ RRep w' t w.heap.size M E V cl (newF E m) false ∧ Below w.heap.size w w' ∧ (∀ k, k < b → t k = 1) ∧ ∀ k, b ≤ k → k < w.heap.size → t k = 0
def NPost (w : World) (E : Env) (m : Int) (e : Ending) (w' : World) : Prop :=
  ∃ M t V cl, e = .returned (.pointer (some ⟨M, 0, none⟩)) ∧ RRep w' t w.heap.size M E V cl (newF E m) false ∧ Below w.heap.size w w' ∧ ∀ k, k < w.heap.size → t k = 1
theorem rnew_at (w0 w : World) (wv ev dv iv : Value) (m : Nat) (E : Env) (hb0 : Below w0.heap.size w0 w) (hw : Rd w0 5 wv E.ws.length (cW E.ws)) (he : Rd w0 2 ev E.es.length (entC E.es)) (hi : Rd w0 1 iv E.inp.length (intsV E.inp)) (hd : ∃ a n c, dv = .slice a n c) (hm : m < E.es.length) :
    Calls Try.prog 9 #[.agg #[wv, ev, .int .i64 m, dv], iv] w fun e w' => NPost0 w0.heap.size w E m e w' := by
  obtain ⟨wa, wc, hwv⟩ := Rd.shape hw
  obtain ⟨ea, ec, hev⟩ := Rd.shape he
  obtain ⟨ia, ic, hiv⟩ := Rd.shape hi
  obtain ⟨da, dn, dc, hdv⟩ := hd
  subst hwv hev hiv hdv
  have h0 : ¬ ((m : Int) < 0) := by omega
  have h1 : ¬ ((E.es.length : Int) ≤ (m : Int)) := by omega
  have HW := Lib.hid hw
  have HE := Lib.hid he
  have HI := Lib.hid hi
  have HB0 := Lib.hid hb0
  clear hw he hi hb0
  go_enter Try.func9, Try.ntmps9
  go_wp2_with fail
  obtain ⟨w2, hw2⟩ : ∃ w2, w2 = ((w.alloc (.cells #[.slice wa E.ws.length wc, .slice ea E.es.length ec, .int .i64 m, .slice da dn dc] 26)).alloc (.cells #[.slice wa E.ws.length wc, .slice ea E.es.length ec, .int .i64 m, .slice da dn dc, .slice ia E.inp.length ic, .slice none 0 0, .slice none 0 0, .int .u8 0, .int .i64 0, .slice none 0 0, .int .i64 0, .int .i64 0, .int .i64 0, .int .i64 0, .bool false] 66)) := ⟨_, rfl⟩
  rw [← hw2]
  have hB : Below w.heap.size w w2 := by rw [hw2]; exact ((Below.refl _ _).alloc (Nat.le_refl _) _).alloc (by simp) _
  have hz2 : w2.heap.size = w.heap.size + 2 := by rw [hw2]; simp
  have hM2 : w2.heap[w.heap.size + 1]? = some (.cells (rC ⟨.slice wa E.ws.length wc, .slice ea E.es.length ec, m, .slice da dn dc, .slice ia E.inp.length ic, .slice none 0 0, .slice none 0 0, .slice none 0 0⟩ noSt false) 66 (0, 0)) := by
    rw [hw2]
    exact (two_alloc w _ _ _ _).2.1
  have hk2 : w2.cell? ⟨w.heap.size, 2, none⟩ = some (.int .i64 m) := by rw [hw2]; simp
  obtain ⟨t0, ht0⟩ : ∃ t0 : Nat → Nat, t0 = upd (fun k => if k < w0.heap.size then 1 else 0) (w.heap.size + 1) 3 := ⟨_, rfl⟩
  have hz0 : w0.heap.size ≤ w.heap.size := HB0.out.size
  have ht0l : ∀ k, k < w0.heap.size → t0 k = 1 := fun k hk => by rw [ht0, upd_ne (by omega), if_pos hk]
  have ht0z : ∀ k, w0.heap.size ≤ k → k < w.heap.size → t0 k = 0 := fun k hk hk2 => by rw [ht0, upd_ne (by omega), if_neg (by omega)]
  have ht0M : t0 (w.heap.size + 1) = 3 := by rw [ht0]; exact upd_at _ _ _
  have ht0o : ∀ k, k ≠ w.heap.size + 1 → t0 k ≤ 1 ∧ (t0 k ≠ 0 → k < w.heap.size) := fun k hk => by
    rw [ht0, upd_ne hk]
    by_cases h : k < w0.heap.size
    · rw [if_pos h]; exact ⟨by omega, fun _ => by omega⟩
    · rw [if_neg h]; exact ⟨by omega, fun h' => absurd rfl h'⟩
  have HR : Hid (RRep w2 t0 w.heap.size (w.heap.size + 1) E ⟨.slice wa E.ws.length wc, .slice ea E.es.length ec, m, .slice da dn dc, .slice ia E.inp.length ic, .slice none 0 0, .slice none 0 0, .slice none 0 0⟩ [] noSt false) := by
    refine ⟨hM2, ht0M, ⟨⟨Rd.later HW.out (HB0.out.trans (hB.mono hz0)), fun hn k hk => ?_, Rd.later HE.out (HB0.out.trans (hB.mono hz0)), fun hn k hk => ?_, Rd.later HI.out (HB0.out.trans (hB.mono hz0)), fun hn k hk => ?_⟩, fun hn k hk => ?_, fun hn k hk => ?_, fun hn k hk => ?_⟩, rfl, Row.nil _ _ _ _ _ _, Row.nil _ _ _ _ _ _, Row.nil _ _ _ _ _ _, fun i p hp => by simp at hp, fun k hk => ?_, fun k hk => ?_⟩
    · rw [ht0l k (Rd.blk HW.out hn (by omega) k hk)]; omega
    · rw [ht0l k (Rd.blk HE.out hn (by omega) k hk)]; omega
    · rw [ht0l k (Rd.blk HI.out hn (by omega) k hk)]; omega
    · rw [ht0l k (Rd.blk HW.out hn (by omega) k hk)]; omega
    · rw [ht0l k (Rd.blk HE.out hn (by omega) k hk)]; omega
    · rw [ht0l k (Rd.blk HI.out hn (by omega) k hk)]; omega
    · by_cases e : k = w.heap.size + 1
      · omega
      · have := (ht0o k e).2 hk; omega
    · by_cases e : k = w.heap.size + 1
      · omega
      · have := (ht0o k e).1; omega
  have HB := Lib.hid hB
  have HT := Lib.hid (And.intro ht0l ht0z)
  clear hw2 hB hM2 ht0 ht0M ht0o ht0l ht0z
  refine (rbegin_any w2 t0 w.heap.size (w.heap.size + 1) E _ [] noSt false HR.out (by simp) m hm [] (.slice none 0 0) (Row.nil _ _ _ _ _ _) 0).mono ?_
  rintro e w3 ⟨rfl, t3, V3, cv3, R3, F3⟩
  have HR3 := Lib.hid R3
  have HF3 := Lib.hid F3
  clear R3 F3
  go_wp2_with fail
  go_ret
  have htw : ∀ k, k < w.heap.size → t0 k ≤ 1 := fun k hk => by
    rcases Nat.lt_or_ge k w0.heap.size with h | h
    · rw [HT.out.1 k h]; omega
    · rw [HT.out.2 k h hk]; omega
  refine ⟨_, t3, V3, _, rfl, HR3.out, ?_, fun k hk => ?_, fun k hk hk2 => ?_⟩
  · have F := HF3.out
    refine HB.out.trans ⟨F.os, F.tape, F.output, F.size, fun k hk => F.stay k (by omega) ?_⟩
    have := htw k hk; omega
  · have h2 := HF3.out.keep k (by omega)
    rw [h2.1 (by rw [HT.out.1 k hk]; omega), HT.out.1 k hk]
  · have h2 := HF3.out.keep k (by omega)
    rw [h2.1 (by rw [HT.out.2 k hk hk2]; omega), HT.out.2 k hk hk2]
theorem rnew_any (w : World) (wv ev dv iv : Value) (m : Nat) (E : Env) (hw : Rd w 5 wv E.ws.length (cW E.ws)) (he : Rd w 2 ev E.es.length (entC E.es)) (hi : Rd w 1 iv E.inp.length (intsV E.inp)) (hd : ∃ a n c, dv = .slice a n c) (hm : m < E.es.length) :
    Calls Try.prog 9 #[.agg #[wv, ev, .int .i64 m, dv], iv] w fun e w' => NPost w E m e w' := by
  refine (rnew_at w w wv ev dv iv m E (Below.refl _ _) hw he hi hd hm).mono ?_
  rintro e w' ⟨M, t, V, cl, h1, h2, h3, h4, -⟩
  exact ⟨M, t, V, cl, h1, h2, h3, h4⟩
end Go.Proofs.Ytgjmdcbdkdmceaa.Mach
