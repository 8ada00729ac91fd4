/- The machine: can it be so? -/
import Derived.Test.YtgjmdcbdkdmceaaQ17
import Derived.Deep.QuietTactic
namespace Go.Proofs.Ytgjmdcbdkdmceaa.Mach
open Go.RowKit

/-- Can a call be so? -/
def frSound (E : Env) (f : Fr) : Bool :=
  decide (0 ≤ f.fn) && decide (f.fn < E.es.length) && decide (f.dst < 16) && decide (f.args.length ≤ 6) && decide (f.ready.length ≤ 6) && decide (f.slots.length = slotsN (E.ent f.fn).2)
/-- Can a machine be so? -/
def soundF (E : Env) (s : St) : Bool :=
  decide (0 ≤ s.read) && decide (s.read ≤ E.inp.length) && decide (s.heap.length ≤ 4096) && decide (s.end_ ≤ 8) && (s.end_ != 5) && (s.opn.isEmpty == (s.end_ == 1)) && s.opn.all (frSound E)
set_option maxRecDepth 100000 in
set_option maxHeartbeats 4000000 in
theorem msound1_any (w : World) (t : Nat → Nat) (base M : Nat) (E : Env) (V : MV) (cl : List (Fr × FV)) (s : St) (h : MRep w t base M E V cl s) (i : Nat) (f : Fr) (cv : FV) (hi : cl[i]? = some (f, cv)) (G : Nat) (hG : w.cell? ⟨G, 0, none⟩ = some (.pointer (some ⟨M, 0, none⟩))) (F : Nat) (hF : cv.blk = F) :
    Calls Try.prog 94 #[.pointer (some ⟨F, 0, none⟩), .pointer (some ⟨G, 0, none⟩)] w fun e w' => e = .returned (.bool (!frSound E f)) ∧ Below w.heap.size w w' := by
  have hp := h.fr i _ hi
  have c1 : w.cell? ⟨M, 1, none⟩ = some V.ev := (h.cellM 1).trans (mC_get _ _).2.1
  have hfb : w.heap[F]? = some (.cells (fC f cv) 111 (0, 0)) := by rw [← hF]; exact hp.fb
  have g : ∀ j, w.cell? ⟨F, j, none⟩ = (fL f cv)[j]? := fun j => by rw [← fC_at]; simp [World.cell?, hfb]
  have g0 : w.cell? ⟨F, 0, none⟩ = some (.int .i64 f.fn) := (g 0).trans (fL_fn f cv).1
  have g21 : w.cell? ⟨F, 21, none⟩ = some (.int .u8 f.dst) := (g 21).trans (fL_tail f cv hp.rl).2.2.2
  obtain ⟨sa, sc, hsv, -, -⟩ := oshape hp.sl.own
  obtain ⟨aa, ac, hav, -, -⟩ := oshape hp.ar.own
  obtain ⟨ya, yc, hyv, -, -⟩ := oshape hp.rd.own
  obtain ⟨sn, hsn⟩ : ∃ n, n = f.slots.length := ⟨_, rfl⟩
  obtain ⟨an, han⟩ : ∃ n, n = f.args.length := ⟨_, rfl⟩
  obtain ⟨yn, hyn⟩ : ∃ n, n = f.ready.length := ⟨_, rfl⟩
  obtain ⟨en, hen⟩ : ∃ n, n = E.es.length := ⟨_, rfl⟩
  have g18 : w.cell? ⟨F, 18, none⟩ = some (.slice sa sn sc) := (g 18).trans ((fL_tail f cv hp.rl).1.trans (by rw [show cv.sv = _ from hsv, hsn]))
  have g19 : w.cell? ⟨F, 19, none⟩ = some (.slice aa an ac) := (g 19).trans ((fL_tail f cv hp.rl).2.1.trans (by rw [show cv.av = _ from hav, han]))
  have g20 : w.cell? ⟨F, 20, none⟩ = some (.slice ya yn yc) := (g 20).trans ((fL_tail f cv hp.rl).2.2.1.trans (by rw [show cv.yv = _ from hyv, hyn]))
  obtain ⟨ea, ec, hev⟩ := Rd.shape h.env.he
  have c1' : w.cell? ⟨M, 1, none⟩ = some (.slice ea en ec) := by rw [c1, hev, hen]
  have HENT : Hid (∀ k : Nat, k < en → ∃ eb eo, ea = some ⟨eb, eo, none⟩ ∧ w.cell? ⟨eb, eo + k * 2 + 1, none⟩ = some (.int .i64 (E.ent k).2)) := Lib.hid fun k hk => by
    obtain ⟨eb, eo, ec', h0, h1, h2, -, -⟩ := h.env.toEnvAt.ent (fn := (k : Int)) (by omega) (by omega)
    rw [hev] at h0
    simp only [Value.slice.injEq, true_and] at h0
    rw [Int.toNat_natCast] at h2
    exact ⟨eb, eo, h0.1, h2⟩
  have HS : Hid (frSound E f = (decide (0 ≤ f.fn) && decide (f.fn < en) && decide (f.dst < 16) && decide (an ≤ 6) && decide (yn ≤ 6) && decide (sn = slotsN (E.ent f.fn).2))) := Lib.hid (by rw [frSound, ← hsn, ← han, ← hyn, ← hen])
  have mixed : Try.prog.follows Departure.mixedOrders = true := by kernel_rfl
  clear h hp c1 hfb g hsv hav hyv hsn han hyn hev hi hF
  rw [HS.out]
  obtain ⟨x, hx⟩ : ∃ x, x = f.fn := ⟨_, rfl⟩
  rw [← hx] at g0 ⊢
  obtain ⟨d, hd⟩ : ∃ d, d = f.dst := ⟨_, rfl⟩
  rw [← hd] at g21 ⊢
  clear hx hd HS hen
  have HB0 : ∀ n, Hid (Below w.heap.size w (w.drewN n)) := fun n => Lib.hid ⟨rfl, rfl, rfl, Nat.le_refl _, fun _ _ => rfl⟩
  by_cases p0 : x < 0
  · have q0 : decide (x < 0) = true := decide_eq_true p0
    have r : decide (0 ≤ x) = false := decide_eq_false (by omega)
    rw [r]
    clear r p0 HENT
    go_enter Try.func94, Try.ntmps94
    go_wp2_with fail
    go_quiet (fail)
    go_wp2_with fail
    all_goals
      go_ret
      exact ⟨ret_bool (by simp), (HB0 _).out⟩
  have q0 : decide (x < 0) = false := decide_eq_false p0
  rw [show (decide (0 ≤ x) = true) from decide_eq_true (by omega)]
  by_cases p1 : (en : Int) ≤ x
  · have q1 : decide ((en : Int) ≤ x) = true := decide_eq_true p1
    have r : decide (x < (en : Int)) = false := decide_eq_false (by omega)
    rw [r]
    clear r p1 HENT
    go_enter Try.func94, Try.ntmps94
    go_wp2_with fail
    go_quiet (fail)
    go_wp2_with fail
    all_goals
      go_ret
      exact ⟨ret_bool (by simp), (HB0 _).out⟩
  have q1 : decide ((en : Int) ≤ x) = false := decide_eq_false p1
  rw [show (decide (x < (en : Int)) = true) from decide_eq_true (by omega)]
  by_cases p2 : 16 ≤ d
  · have q2 : decide (16 ≤ d) = true := decide_eq_true p2
    have r : decide (d < 16) = false := decide_eq_false (by omega)
    rw [r]
    clear r p2 HENT
    go_enter Try.func94, Try.ntmps94
    go_wp2_with fail
    go_quiet (fail)
    go_wp2_with fail
    all_goals
      go_ret
      exact ⟨ret_bool (by simp), (HB0 _).out⟩
  have q2 : decide (16 ≤ d) = false := decide_eq_false p2
  rw [show (decide (d < 16) = true) from decide_eq_true (by omega)]
  by_cases p3 : 6 < (an : Int)
  · have q3 : decide (6 < (an : Int)) = true := decide_eq_true p3
    have r : decide (an ≤ 6) = false := decide_eq_false (by omega)
    rw [r]
    clear r p3 HENT
    go_enter Try.func94, Try.ntmps94
    go_wp2_with fail
    go_quiet (fail)
    go_wp2_with fail
    all_goals
      go_ret
      exact ⟨ret_bool (by simp), (HB0 _).out⟩
  have q3 : decide (6 < (an : Int)) = false := decide_eq_false p3
  rw [show (decide (an ≤ 6) = true) from decide_eq_true (by omega)]
  by_cases p4 : 6 < (yn : Int)
  · have q4 : decide (6 < (yn : Int)) = true := decide_eq_true p4
    have r : decide (yn ≤ 6) = false := decide_eq_false (by omega)
    rw [r]
    clear r p4 HENT
    go_enter Try.func94, Try.ntmps94
    go_wp2_with fail
    go_quiet (fail)
    go_wp2_with fail
    all_goals
      go_ret
      exact ⟨ret_bool (by simp), (HB0 _).out⟩
  have q4 : decide (6 < (yn : Int)) = false := decide_eq_false p4
  rw [show (decide (yn ≤ 6) = true) from decide_eq_true (by omega)]
  obtain ⟨n, rfl⟩ := Int.eq_ofNat_of_zero_le (show 0 ≤ x by omega)
  obtain ⟨eb, eo, rfl, hsl⟩ := HENT.out n (by omega)
  have hne : n < en := by omega
  obtain ⟨z, hz⟩ : ∃ z, z = (E.ent n).2 := ⟨_, rfl⟩
  rw [← hz] at hsl ⊢
  clear p0 p1 p2 p3 p4 hz HENT
  go_enter Try.func94, Try.ntmps94
  go_wp2_with fail
  go_quiet (fail)
  rename_i nq
  obtain ⟨w1, hw1⟩ : ∃ w1, w1 = w.drewN nq := ⟨_, rfl⟩
  have HW1 := Lib.hid hw1
  have k0 : w1.cell? ⟨F, 0, none⟩ = some (.int .i64 n) := by rw [hw1]; exact g0
  have k18 : w1.cell? ⟨F, 18, none⟩ = some (.slice sa sn sc) := by rw [hw1]; exact g18
  have kG : w1.cell? ⟨G, 0, none⟩ = some (.pointer (some ⟨M, 0, none⟩)) := by rw [hw1]; exact hG
  have k1 : w1.cell? ⟨M, 1, none⟩ = some (.slice (some ⟨eb, eo, none⟩) en ec) := by rw [hw1]; exact c1'
  have ks : w1.cell? ⟨eb, eo + n * 2 + 1, none⟩ = some (.int .i64 z) := by rw [hw1]; exact hsl
  have HSL := fun k => Lib.hid (mslots_any M eb eo en ec n z (w1.drewN k) k1 hne ks)
  rw [← hw1]
  have HB1 : ∀ k, Hid (Below w.heap.size w (w1.drewN k)) := fun k => Lib.hid (by rw [hw1]; exact ⟨rfl, rfl, rfl, Nat.le_refl _, fun _ _ => rfl⟩)
  have hz0 : slotsOk z = true → 0 ≤ z := fun h => by unfold slotsOk at h; simp at h; omega
  have HZ := Lib.hid hz0
  clear hw1 g0 g18 g19 g20 g21 hG c1' hsl hz0
  go_wp2_with fail
  go_quiet ((go_at_call 57; exact Calls.quiet_of_same (HSL _).out))
  go_wp2_with fail
  all_goals
    go_ret
    refine ⟨ret_bool ?_, (HB1 _).out⟩
    have hz0 := HZ.out
    simp_all [slotsN]
    try (first | omega | (by_cases h0 : sn = 0 <;> simp [h0] <;> omega))
def IsSound (w : World) (E : Env) (l : List Fr) (r : Int) (e : Ending) (w' : World) : Prop := e = .returned (.int .i64 r) ∧ ((r = -1 ∧ l.all (frSound E) = true) ∨ (0 ≤ r ∧ l.all (frSound E) = false)) ∧ Below w.heap.size w w'
set_option maxHeartbeats 2000000 in
theorem mindex_any (w : World) (t : Nat → Nat) (base M : Nat) (E : Env) (V : MV) (cl : List (Fr × FV)) (s : St) (h : MRep w t base M E V cl s) (G : Nat) (hG : w.cell? ⟨G, 0, none⟩ = some (.pointer (some ⟨M, 0, none⟩))) (hGl : G < w.heap.size) :
   Calls Try.prog 103 #[V.ov, .func (.func 94) #[] #[.pointer (some ⟨G, 0, none⟩)]] w fun e w' => ∃ r, IsSound w E s.opn r e w' := by
  obtain ⟨oa, oc, hov, hoc, hoc9⟩ := oshape h.ho.own
  have hol : s.opn.length = cl.length := by rw [h.opn]; simp
  obtain ⟨n, hn⟩ : ∃ n, n = cl.length := ⟨_, rfl⟩
  rw [hov, ← hn]
  have hn9 : n ≤ 9223372036854775807 := by unfold maxLen at hoc9; omega
  have H := Lib.hid h
  have HOL := Lib.hid hol
  have HN := Lib.hid hn
  have HOV := Lib.hid hov
  have HG := Lib.hid (And.intro hG hGl)
  clear h hol hn hov hG hGl hoc hoc9
  go_enter Try.func103, Try.ntmps103
  go_wp2_with fail
  go_loopw [8] (fun i wr => ∃ j : Nat, j ≤ n ∧ i = .int .i64 j ∧ Hid ((s.opn.take j).all (frSound E) = true) ∧ Hid (Below w.heap.size w wr)) (fun i _ => n - (intOf i).toNat)
  case atStart => exact ⟨0, by omega, rfl, Lib.hid rfl, Lib.hid (Below.refl _ _)⟩
  case round =>
    obtain ⟨wa, rfl⟩ : ∃ wa : World, wa = wr := ⟨_, rfl⟩
    obtain ⟨j, hj, rfl, HA, HB⟩ := hrel
    by_cases hlt : j < n
    · have hlt' : (j : Int) < n := by omega
      have HR := Lib.hid (H.out.below HB.out)
      obtain ⟨pf, hpf⟩ : ∃ pf, cl[j]? = some pf := ⟨_, List.getElem?_eq_getElem (by rw [← HN.out]; exact hlt)⟩
      obtain ⟨f, cv⟩ := pf
      obtain ⟨ob, obc, hv, hlob, -, -, hat⟩ := osplit HR.out.ho.own (by rw [← HN.out]; omega)
      rw [HOV.out, ← HN.out] at hv
      simp only [Value.slice.injEq, true_and] at hv
      obtain ⟨rfl, rfl⟩ := hv
      obtain ⟨F, hF⟩ : ∃ F, F = cv.blk := ⟨_, rfl⟩
      have kp := hat j (.pointer (some ⟨F, 0, none⟩)) (by rw [hF]; simp [ptrC, hpf])
      have kG : wa.cell? ⟨G, 0, none⟩ = some (.pointer (some ⟨M, 0, none⟩)) := (HB.out.cell (p := ⟨G, 0, none⟩) HG.out.2).trans HG.out.1
      have HC := Lib.hid (msound1_any wa t base M E V cl s HR.out j f cv hpf G kG F hF.symm)
      have hsf : s.opn[j]? = some f := by rw [HR.out.opn, List.getElem?_map, hpf]; rfl
      have HSF := Lib.hid hsf
      clear hpf hat hF hsf kG
      go_wp2_with fail
      refine HC.out.mono ?_
      rintro e w1 ⟨rfl, hb1⟩
      have HB1 := Lib.hid (HB.out.trans (hb1.mono HB.out.size))
      clear hb1
      cases hk : frSound E f
      · have HK := Lib.hid hk
        clear hk
        go_wp2_with fail
        go_ret
        exact ⟨j, rfl, .inr ⟨by omega, by rw [List.all_eq_false]; exact ⟨f, List.mem_of_getElem? HSF.out, by rw [HK.out]; simp⟩⟩, HB1.out⟩
      · have HK := Lib.hid hk
        clear hk
        go_wp2_with fail
        exact ⟨⟨j + 1, by omega, by simp, Lib.hid (by obtain ⟨hjl, hjf⟩ := List.getElem?_eq_some_iff.1 HSF.out; rw [List.take_succ_eq_append_getElem hjl, List.all_append, HA.out, hjf]; simp [HK.out]), HB1⟩, by simp [intOf]; omega⟩
    · obtain rfl : j = n := by omega
      go_wp2_with fail
      go_ret
      exact ⟨-1, rfl, .inl ⟨rfl, by have h9 := HA.out; rwa [HN.out, ← HOL.out, List.take_length] at h9⟩, HB.out⟩
set_option maxHeartbeats 1000000 in
theorem mcontains_any (w : World) (t : Nat → Nat) (base M : Nat) (E : Env) (V : MV) (cl : List (Fr × FV)) (s : St) (h : MRep w t base M E V cl s) (G : Nat) (hG : w.cell? ⟨G, 0, none⟩ = some (.pointer (some ⟨M, 0, none⟩))) (hGl : G < w.heap.size) :
   Calls Try.prog 93 #[V.ov, .func (.func 94) #[] #[.pointer (some ⟨G, 0, none⟩)]] w fun e w' => e = .returned (.bool (!s.opn.all (frSound E))) ∧ Below w.heap.size w w' := by
  have HI := Lib.hid (mindex_any w t base M E V cl s h G hG hGl)
  clear h hG
  go_enter Try.func93, Try.ntmps93
  go_wp2_with fail
  refine HI.out.mono ?_
  rintro e w1 ⟨r, rfl, h, hb⟩
  have HB := Lib.hid hb
  clear hb
  rcases h with ⟨rfl, hl⟩ | ⟨h0, hl⟩
  · have HL := Lib.hid hl
    clear hl HI
    go_wp2_with fail
    go_ret
    exact ⟨ret_bool (by rw [HL.out]; rfl), HB.out⟩
  · have HL := Lib.hid hl
    clear hl HI
    go_wp2_with fail
    go_ret
    exact ⟨ret_bool (by rw [HL.out]; go_light; simp), HB.out⟩
set_option maxRecDepth 100000 in
set_option maxHeartbeats 1000000 in
theorem msound_any (w : World) (t : Nat → Nat) (base M : Nat) (E : Env) (V : MV) (cl : List (Fr × FV)) (s : St) (h : MRep w t base M E V cl s) :
    Calls Try.prog 74 #[.pointer (some ⟨M, 0, none⟩)] w fun e w' => e = .returned (.bool (soundF E s)) ∧ Below w.heap.size w w' := by
  have c8 : w.cell? ⟨M, 8, none⟩ = some (.int .u8 s.end_) := (h.cellM 8).trans (mC_get _ _).2.2.2.2.2.2.1
  have c11 : w.cell? ⟨M, 11, none⟩ = some (.int .i64 s.read) := (h.cellM 11).trans rfl
  obtain ⟨oa, oc, hov, -, -⟩ := oshape h.ho.own
  obtain ⟨ha, hc, hhv, -, -⟩ := oshape h.hh.own
  obtain ⟨ia, ic, hiv⟩ := Rd.shape h.env.hi
  obtain ⟨n, hn⟩ : ∃ n, n = cl.length := ⟨_, rfl⟩
  obtain ⟨hn_, hhn⟩ : ∃ n, n = s.heap.length := ⟨_, rfl⟩
  obtain ⟨ni, hni⟩ : ∃ n, n = E.inp.length := ⟨_, rfl⟩
  have c5 : w.cell? ⟨M, 5, none⟩ = some (.slice oa n oc) := (h.cellM 5).trans ((mC_get _ _).2.2.2.1.trans (by rw [hov, hn]))
  have c6 : w.cell? ⟨M, 6, none⟩ = some (.slice ha hn_ hc) := (h.cellM 6).trans ((mC_get _ _).2.2.2.2.1.trans (by rw [hhv, hhn]))
  have c4 : w.cell? ⟨M, 4, none⟩ = some (.slice ia ni ic) := (h.cellM 4).trans ((mC_get _ _).2.2.1.trans (by rw [hiv, hni]))
  have hopn : s.opn.isEmpty = decide (n = 0) := by
    have hl : s.opn.length = n := by rw [h.opn, hn]; simp
    cases ho : s.opn with
    | nil => rw [ho] at hl; have e : n = 0 := hl.symm; rw [e]; rfl
    | cons a l => rw [ho] at hl; have e : n ≠ 0 := by rw [← hl]; simp
                  rw [decide_eq_false e]; rfl
  have hlM := h.ltM
  have HS : Hid (soundF E s = (decide (0 ≤ s.read) && decide (s.read ≤ ni) && decide (hn_ ≤ 4096) && decide (s.end_ ≤ 8) && (s.end_ != 5) && (decide (n = 0) == (s.end_ == 1)) && s.opn.all (frSound E))) := Lib.hid (by rw [soundF, ← hhn, ← hni, hopn])
  have HC : Hid (∀ V' : World, Below w.heap.size w V' → ∀ G, V'.cell? ⟨G, 0, none⟩ = some (.pointer (some ⟨M, 0, none⟩)) → G < V'.heap.size → Calls Try.prog 93 #[.slice oa n oc, .func (.func 94) #[] #[.pointer (some ⟨G, 0, none⟩)]] V' fun e w' => e = .returned (.bool (!s.opn.all (frSound E))) ∧ Below V'.heap.size V' w') := Lib.hid fun V' hb G hG hl => by
    have := mcontains_any V' t base M E V cl s (h.below hb) G hG hl
    rw [hov, ← hn] at this
    exact this
  obtain ⟨r, hr⟩ : ∃ r, r = s.read := ⟨_, rfl⟩
  obtain ⟨q, hq⟩ : ∃ q, q = s.end_ := ⟨_, rfl⟩
  rw [← hr] at c11 HS
  rw [← hq] at c8 HS
  obtain ⟨al, hal⟩ : ∃ al, al = s.opn.all (frSound E) := ⟨_, rfl⟩
  rw [← hal] at HS HC
  rw [HS.out]
  clear h hov hhv hiv hn hhn hni hopn hr hq hal HS
  obtain ⟨w1, hw1⟩ : ∃ w1, w1 = w.alloc (.cells #[.pointer (some ⟨M, 0, none⟩)] 39) := ⟨_, rfl⟩
  have hb1 : Below w.heap.size w w1 := by rw [hw1]; exact (Below.refl _ _).alloc (Nat.le_refl _) _
  have d4 := (hb1.cell (p := ⟨M, 4, none⟩) hlM).trans c4
  have d5 := (hb1.cell (p := ⟨M, 5, none⟩) hlM).trans c5
  have d6 := (hb1.cell (p := ⟨M, 6, none⟩) hlM).trans c6
  have d8 := (hb1.cell (p := ⟨M, 8, none⟩) hlM).trans c8
  have d11 := (hb1.cell (p := ⟨M, 11, none⟩) hlM).trans c11
  have dG : w1.cell? ⟨w.heap.size, 0, none⟩ = some (.pointer (some ⟨M, 0, none⟩)) := by rw [hw1]; simp
  have hl1 : w.heap.size < w1.heap.size := by rw [hw1, World.size_alloc]; omega
  have HB := Lib.hid hb1
  have HB0 : ∀ n, Hid (Below w.heap.size w (w1.drewN n)) := fun n => Lib.hid (hb1.trans ⟨rfl, rfl, rfl, Nat.le_refl _, fun _ _ => rfl⟩)
  clear c4 c5 c6 c8 c11 hb1
  by_cases p0 : r < 0
  · have q0 : decide (r < 0) = true := decide_eq_true p0
    have r : decide (0 ≤ r) = false := decide_eq_false (by omega)
    rw [r]
    clear r p0 HC
    go_enter Try.func74, Try.ntmps74
    go_wp2_with fail
    rw [← hw1]
    clear hw1
    go_quiet (fail)
    go_wp2_with fail
    all_goals
      go_ret
      exact ⟨ret_bool (by simp), (HB0 _).out⟩
  have q0 : decide (r < 0) = false := decide_eq_false p0
  rw [show decide (0 ≤ r) = true from decide_eq_true (by omega)]
  clear p0
  by_cases p1 : (ni : Int) < r
  · have q1 : decide ((ni : Int) < r) = true := decide_eq_true p1
    have r : decide (r ≤ (ni : Int)) = false := decide_eq_false (by omega)
    rw [r]
    clear r p1 HC
    go_enter Try.func74, Try.ntmps74
    go_wp2_with fail
    rw [← hw1]
    clear hw1
    go_quiet (fail)
    go_wp2_with fail
    all_goals
      go_ret
      exact ⟨ret_bool (by simp), (HB0 _).out⟩
  have q1 : decide ((ni : Int) < r) = false := decide_eq_false p1
  rw [show decide (r ≤ (ni : Int)) = true from decide_eq_true (by omega)]
  clear p1
  by_cases p2 : 4096 < (hn_ : Int)
  · have q2 : decide (4096 < (hn_ : Int)) = true := decide_eq_true p2
    have r : decide (hn_ ≤ 4096) = false := decide_eq_false (by omega)
    rw [r]
    clear r p2 HC
    go_enter Try.func74, Try.ntmps74
    go_wp2_with fail
    rw [← hw1]
    clear hw1
    go_quiet (fail)
    go_wp2_with fail
    all_goals
      go_ret
      exact ⟨ret_bool (by simp), (HB0 _).out⟩
  have q2 : decide (4096 < (hn_ : Int)) = false := decide_eq_false p2
  rw [show decide (hn_ ≤ 4096) = true from decide_eq_true (by omega)]
  clear p2
  by_cases p3 : 8 < q
  · have q3 : decide (8 < q) = true := decide_eq_true p3
    have r : decide (q ≤ 8) = false := decide_eq_false (by omega)
    rw [r]
    clear r p3 HC
    go_enter Try.func74, Try.ntmps74
    go_wp2_with fail
    rw [← hw1]
    clear hw1
    go_quiet (fail)
    go_wp2_with fail
    all_goals
      go_ret
      exact ⟨ret_bool (by simp), (HB0 _).out⟩
  have q3 : decide (8 < q) = false := decide_eq_false p3
  rw [show decide (q ≤ 8) = true from decide_eq_true (by omega)]
  clear p3
  by_cases p4 : q = 5
  · subst p4
    clear HC
    go_enter Try.func74, Try.ntmps74
    go_wp2_with fail
    rw [← hw1]
    clear hw1
    go_quiet (fail)
    go_wp2_with fail
    all_goals
      go_ret
      exact ⟨ret_bool (by simp), (HB0 _).out⟩
  have q4 : (q == 5) = false := by simpa using p4
  have q4' : (q != 5) = true := by simpa using p4
  rw [q4']
  clear q4' p4
  obtain ⟨z, hz⟩ : ∃ z : Bool, ((n : Int) == 0) = z := ⟨_, rfl⟩
  obtain ⟨y, hy⟩ : ∃ y : Bool, (q == 1) = y := ⟨_, rfl⟩
  have hz' : decide (n = 0) = z := by rw [← hz, Bool.eq_iff_iff]; simp
  rw [hz', hy]
  clear hz'
  by_cases p5 : z = y
  · subst p5
    have p5' : (z == z) = true := by simp
    rw [p5']
    clear p5'
    go_enter Try.func74, Try.ntmps74
    go_wp2_with fail
    rw [← hw1]
    clear hw1
    go_quiet (fail)
    rename_i nq
    obtain ⟨w2, hw2⟩ : ∃ w2, w2 = w1.drewN nq := ⟨_, rfl⟩
    have e5 : w2.cell? ⟨M, 5, none⟩ = some (.slice oa n oc) := by rw [hw2]; exact d5
    have eG : w2.cell? ⟨w.heap.size, 0, none⟩ = some (.pointer (some ⟨M, 0, none⟩)) := by rw [hw2]; exact dG
    have hb2 : Below w.heap.size w w2 := by rw [hw2]; exact (HB0 nq).out
    have hl2 : w.heap.size < w2.heap.size := by rw [hw2]; exact hl1
    have HB2 := Lib.hid hb2
    have HCC := Lib.hid (HC.out w2 hb2 w.heap.size eG hl2)
    rw [← hw2]
    clear hw2 hb2 d4 d5 d6 d8 d11 dG HC
    go_wp2_with fail
    refine HCC.out.mono ?_
    rintro e w3 ⟨rfl, hb3⟩
    have HB3 := Lib.hid (HB2.out.trans (hb3.mono HB2.out.size))
    clear hb3
    go_wp2_with fail
    go_ret
    exact ⟨ret_bool (by simp), HB3.out⟩
  · have p5' : (z == y) = false := by simpa using p5
    rw [p5']
    clear HC
    go_enter Try.func74, Try.ntmps74
    go_wp2_with fail
    rw [← hw1]
    clear hw1
    go_quiet (fail)
    go_wp2_with fail
    all_goals
      go_ret
      exact ⟨ret_bool (by simp), (HB0 _).out⟩
end Go.Proofs.Ytgjmdcbdkdmceaa.Mach
