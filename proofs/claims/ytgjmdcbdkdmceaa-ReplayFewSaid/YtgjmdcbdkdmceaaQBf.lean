/- A player: the next choice; a place that was come to is kept. -/
import Derived.Test.YtgjmdcbdkdmceaaQz31
import Derived.Deep.DeepCutAuto
import Derived.Deep.RegionWith
namespace Go.Proofs.Ytgjmdcbdkdmceaa.Mach
open Go.RowKit

section
variable {w w' : World} {u u' : Nat → Prop} {t : Nat → Nat} {base P : Nat} {X : PX} {V : PV} {d : PS} {v : Value} {l : List Mo}
theorem PlR.choice (h : PlR w u t base P X V d v l) (H : X.Ok) (ht : X.cs.length = 0 ∨ d.turn < X.cs.length) :
    Calls Try.prog 56 #[.pointer (some ⟨P, 0, none⟩)] w fun e w' => e = .returned (.int .i64 (choiceF X.cs d.turn).1) ∧ PlR w' u t base P X V { d with turn := (choiceF X.cs d.turn).2 } v l ∧ Fu w w' u u := by
  refine (choice_any X V d.turn d.work P w base h.hp h.rc ht H.cl).mono ?_
  rintro e w' ⟨rfl, W, hb, rfl | ⟨rfl, h2⟩⟩
  · obtain ⟨h3, h4⟩ := (h.below hb).setP (i := 8) (x := .int .i64 ((choiceF X.cs d.turn).2 : Nat)) (d' := { d with turn := (choiceF X.cs d.turn).2 }) rfl rfl rfl
    exact ⟨rfl, h3, (Fu.below hb).trans h4⟩
  · refine ⟨rfl, ?_, Fu.below hb⟩
    rw [h2]
    exact h.below hb
theorem choiceF_i64 {cs : List Int} (h : I64s cs) (t : Nat) : i64 (choiceF cs t).1 := by
  unfold choiceF
  split
  · show i64 0; unfold i64; omega
  · show i64 (cs.getD t 0)
    rw [List.getD_eq_getElem?_getD]
    cases he : cs[t]? with
    | none => show i64 0; unfold i64; omega
    | some y => exact h y (List.mem_of_getElem? he)
end
theorem hasI_map (S : Ms) (x : Int) : hasI (S.map (·.1)) x = S.any (fun y => y.1 == x) := by
  unfold hasI
  rw [List.any_map]
  rfl
theorem KOk.small {X : PX} {q : Ms × Nat} (h : KOk X q) (H : X.Ok) : q.1.length ≤ 64 := by
  have := h.len
  have := H.mo
  omega
theorem PX.Ok.bytes {X : PX} (H : X.Ok) (k : Nat) : (saveB (X.path k).2).length ≤ 330000 := by
  obtain ⟨n, P⟩ := H.at_ k
  exact saveB_few P.sane H.few (Nat.le_trans P.le H.hF)

/-- Put, of a machine's bytes. -/
theorem put_keep {w2 w3 w4 : World} {u : Nat → Prop} {t : Nat → Nat} {base P : Nat} {X : PX} {V : PV} {d : PS} {turn i : Nat} {c : Int} {v pv : Value} {l : List Mo} (h : PlR w4 u t base P X V { d with turn := turn } v l) (H : X.Ok) (hK : KOk X (d.S, d.turn)) (hp : w3.ownsRow w2.heap.size 5 1 pv (saveB (X.path i).2).length (bytesV (saveB (X.path i).2))) (hf : Fu w3 w4 u u) (_hz : w2.heap.size ≤ w3.heap.size) (hu : ∀ k, u k → base ≤ k ∧ k < w2.heap.size) (hc : i64 c) :
    Calls Try.prog 55 #[.pointer (some ⟨V.Bs, 0, none⟩), .int .i64 i, pv, .int .i64 c] w4 fun e w' => e = .returned (.int .i64 0) ∧ PPost w4 u base P X { d with S := putS X.most d.S i (saveB (X.path i).2) c, turn := turn } w' := by
  have hst := h.st
  have hp4 : w4.ownsRow w2.heap.size 5 1 pv (saveB (X.path i).2).length (bytesV (saveB (X.path i).2)) := osame hp fun k hk => (hf.stay k (olt hp k hk) fun huk => by
    have h1 := (oblk hp k hk).1
    have h2 := (hu k huk).2
    omega).1
  refine (put_any i pv (saveB (X.path i).2) c w4 base V.Bs X.most v l d.S hst hK.ris (by have := hK.small H; have := hst.len; simp at *; omega) H.mo.1 (Nat.le_trans (H.bytes i) (by omega)) (by omega) h.bs hc (fun W hW => ?_)).mono ?_
  · refine Rd.of_own (osame hp4 fun k hk => ?_)
    obtain ⟨-, cur, hcur⟩ := oblk hp4 k hk
    rw [hcur]
    exact hW k _ hcur (fun c f => cells_ne (by decide)) (fun c f => cells_ne (by decide))
  · rintro e w' ⟨rfl, v', l', h1, h2, h3, h4, h5, h6⟩
    obtain ⟨u', h7, h8⟩ := h.put h1 h2 h3 h4 h5 h6
    exact ⟨rfl, u', ⟨t, V, v', l', h7⟩, h8⟩
set_option maxRecDepth 100000 in
set_option maxHeartbeats 4000000 in
theorem keep_any (w : World) (u : Nat → Prop) (base P : Nat) (X : PX) (d : PS) (i : Nat) (h : PAt w u base P X d) (H : X.Ok) (hK : KOk X (d.S, d.turn)) (hi : 0 < i) (hs : d.s = (X.path i).2) (hi9 : i ≤ 3000) :
    Calls Try.prog 39 #[.pointer (some ⟨P, 0, none⟩), .int .i64 i] w fun e w' => e = .returned (.tuple #[]) ∧ PPost w u base P X { d with S := (keepF X i (d.S, d.turn)).1, turn := (keepF X i (d.S, d.turn)).2 } w' := by
  obtain ⟨t, V, v, l, h⟩ := h
  have HP := Lib.hid h
  have hlP := h.ltP
  have c2 : w.cell? ⟨P, 5, none⟩ = some (.int .i64 X.every) := by rw [h.cellP]; rfl
  have c9 : w.cell? ⟨P, 9, none⟩ = some (.pointer (some ⟨V.Bs, 0, none⟩)) := by rw [h.cellP]; rfl
  have hev := H.ev
  obtain ⟨ev, hevd⟩ : ∃ ev, ev = X.every := ⟨_, rfl⟩
  rw [← hevd] at c2 hev
  obtain ⟨r, hr⟩ : ∃ r, r = (i : Int) % ev := ⟨_, rfl⟩
  have hm : (i : Int) % ev = r := hr.symm
  have hev0 : (ev == 0) = false := by simp; omega
  have HE := Lib.hid hevd
  have HI := Lib.hid hs
  by_cases h0 : r = 0
  · have hr0 : (r != 0) = false := by simpa using h0
    have HRZ : Hid ((i : Int) % X.every = 0) := Lib.hid (by rw [← hevd, hm]; exact h0)
    have HL := Lib.hid (list_any w base V.Bs X.most v l d.S h.st (by have := hK.small H; have := h.st.len; simp at *; omega))
    clear h hs hevd hr h0
    go_enter Try.func39, Try.ntmps39
    go_wp2_with fail
    refine HL.out.mono ?_
    rintro e w1 ⟨q, rfl, hq, hb1⟩
    have e1 : l.map (·.1) = d.S.map (·.1) := map_fst HP.out.st
    rw [e1] at hq
    obtain ⟨xs, hxs⟩ : ∃ xs, xs = d.S.map (·.1) := ⟨_, rfl⟩
    rw [← hxs] at hq
    have HC := contains_int q xs i w1 (Rd.of_own hq)
    have hxh : hasI xs i = d.S.any (fun y => y.1 == (i : Int)) := by rw [hxs, hasI_map]
    rw [hxh] at HC
    have HC := Lib.hid HC
    obtain ⟨qa, qc, rfl⟩ := (Rd.of_own hq).shape
    have HP1 := Lib.hid (HP.out.below hb1)
    have HF1 : Hid (Fu w w1 u u) := Fu.below hb1
    clear hq hb1 c9 c2 HP HL e1 hxs hxh
    go_wp2_with fail
    refine HC.out.mono ?_
    rintro e w2 ⟨rfl, rfl⟩
    obtain ⟨b, hb⟩ : ∃ b, b = d.S.any (fun y => y.1 == (i : Int)) := ⟨_, rfl⟩
    rw [← hb]
    have HBB := Lib.hid hb
    clear hb HC
    cases b
    · have hkf : keepF X i (d.S, d.turn) = (putS X.most d.S i (saveB (X.path i).2) (choiceF X.cs d.turn).1, (choiceF X.cs d.turn).2) := by
        unfold keepF
        rw [if_neg]
        rw [Bool.or_eq_true, not_or]
        exact ⟨by rw [HRZ.out]; simp, by rw [← HBB.out]; simp⟩
      have HKF := Lib.hid hkf
      clear hkf
      have HP2 := Lib.hid (HP1.out.below ((Below.refl w2.heap.size w2).drew))
      have HF2 : Hid (Fu w w2.drew u u) := HF1.out.trans (Fu.below ((Below.refl w2.heap.size w2).drew))
      have c9 : w2.drew.cell? ⟨P, 9, none⟩ = some (.pointer (some ⟨V.Bs, 0, none⟩)) := by rw [HP2.out.cellP]; rfl
      have c10 : w2.drew.cell? ⟨P, 10, none⟩ = some (.pointer (some ⟨V.M, 0, none⟩)) := by rw [HP2.out.cellP]; rfl
      go_wp2_with fail
      go_region_with (first
        | (go_at_call 18; refine (HP2.out.mc.save H.hE (by omega)).mono ?_; rintro e w3 ⟨pv, rfl, hb3, hp3⟩; have HP3 := Lib.hid (HP2.out.below hb3); have HF3 : Hid (Fu w w3 u u) := HF2.out.trans (Fu.below hb3); have HS3 := Lib.hid (And.intro hp3 hb3.size); obtain ⟨pa, pc, rfl⟩ := (Rd.of_own hp3).shape; have d9 : w3.cell? ⟨P, 9, none⟩ = some (.pointer (some ⟨V.Bs, 0, none⟩)) := (by rw [HP3.out.cellP]; rfl); clear hb3 hp3)
        | (go_at_call 56; refine (HP3.out.choice H hK.turn).mono ?_; rintro e w4 ⟨rfl, hP4, hF4⟩; have HP4 := Lib.hid hP4; have HF4 := Lib.hid (And.intro hF4 (HF3.out.trans hF4)); have e9 : w4.cell? ⟨P, 9, none⟩ = some (.pointer (some ⟨V.Bs, 0, none⟩)) := (by rw [HP4.out.cellP]; rfl); clear hP4 hF4)
        | (go_at_call 55; refine (put_keep HP4.out H hK (by rw [← HI.out]; exact HS3.out.1) HF4.out.1 HS3.out.2 HP2.out.ulo (choiceF_i64 H.ci _)).mono ?_; rintro e w5 ⟨rfl, h5⟩; have HQ := Lib.hid (PPost.before HF4.out.2 h5); clear h5))
      all_goals
        refine bodyPost_end (results_none rfl _ _ _) rfl ?_
        refine ⟨rfl, ?_⟩
        rw [HKF.out]
        exact HQ.out
    · have hkf : keepF X i (d.S, d.turn) = (d.S, d.turn) := by
        unfold keepF
        rw [if_pos]
        rw [Bool.or_eq_true]
        exact .inr HBB.out.symm
      have HKF := Lib.hid hkf
      clear hkf
      go_wp2_with fail
      refine bodyPost_ret (results_none rfl _ _ _) rfl ?_
      refine ⟨rfl, ?_⟩
      rw [HKF.out]
      exact ⟨u, ⟨t, V, v, l, HP1.out⟩, HF1.out⟩
  · have e : keepF X i (d.S, d.turn) = (d.S, d.turn) := by
      unfold keepF
      rw [if_pos]
      rw [Bool.or_eq_true]
      left
      rw [← hevd, hm]
      simpa using h0
    rw [e]
    have hr0 : (r != 0) = true := by simpa using h0
    clear h e h0 hs hr hevd
    go_enter Try.func39, Try.ntmps39
    go_wp2_with fail
    refine bodyPost_ret (results_none rfl _ _ _) rfl ?_
    exact ⟨rfl, u, ⟨t, V, v, l, HP.out⟩, Fu.refl _ _⟩
end Go.Proofs.Ytgjmdcbdkdmceaa.Mach
