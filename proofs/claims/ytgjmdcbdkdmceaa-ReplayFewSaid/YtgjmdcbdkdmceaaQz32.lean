/- Going to a place, plainly: what each round of the loop makes of a player. No program in sight. -/
import Derived.Test.YtgjmdcbdkdmceaaQBg
import Derived.Deep.LoopGhost
import Derived.StillTailTactics
import Derived.IntWalk
import Derived.Deep.DeepCutAuto
namespace Go.Proofs.Ytgjmdcbdkdmceaa.Mach
open Go.RowKit

/-- A player on its way to place k; R: what will come of it; n: rounds at most; Wm: no more steps than that. -/
structure GoA (X : PX) (k : Nat) (R : Bool × PS) (Wm : Int) (i : Nat) (d : PS) : Prop where
  le : i ≤ k
  there : (X.path i).1 = true
  s : d.s = (X.path i).2
  work : 0 ≤ d.work ∧ d.work + (X.F - d.s.steps) ≤ Wm
  R : R = ((X.path k).1, ⟨(X.path k).2, (goK X (k - i) i (d.S, d.turn)).1, (goK X (k - i) i (d.S, d.turn)).2, d.work + ((X.path k).2.steps - (X.path i).2.steps)⟩)
def GoB (X : PX) (k : Nat) (R : Bool × PS) (d : PS) : Prop := overF X.F d.s = true ∧ d.s.marks < k ∧ R = (false, d)
def GoSt (X : PX) (k : Nat) (R : Bool × PS) (Wm : Int) (n : Nat) (d : PS) : Prop := POk X d ∧ ((∃ i, GoA X k R Wm i d ∧ n = k - i + 2) ∨ (GoB X k R d ∧ n = 1))
section
variable {X : PX} {k n : Nat} {R : Bool × PS} {Wm : Int} {d : PS}
theorem fromF_place (H : X.Ok) (hK : POk X d) (_he : endsF X.F k d = false) : fromF X.F k d ≤ k ∧ (X.path (fromF X.F k d)).1 = true := by
  by_cases hon : onF X.F k d = true
  · have hf : fromF X.F k d = d.s.marks.toNat := by unfold fromF; rw [if_pos hon]
    rw [hf]
    obtain ⟨j, hj⟩ := hK.at_
    unfold onF at hon
    rw [Bool.and_eq_true, Bool.and_eq_true] at hon
    have ho : overF X.F d.s = false := by simpa using hon.1.1
    rw [hj] at ho
    obtain ⟨h1, h2⟩ := H.here ho
    have h3 := of_decide_eq_true hon.1.2
    rw [hj, h2] at h3 ⊢
    exact ⟨by omega, by simpa using h1⟩
  · cases hb : bestF d.S k with
    | none =>
      have hf : fromF X.F k d = 0 := by unfold fromF; rw [if_neg hon, hb]
      rw [hf]
      exact ⟨Nat.zero_le _, rfl⟩
    | some b =>
      have hf : fromF X.F k d = b.1.toNat := by unfold fromF; rw [if_neg hon, hb]
      rw [hf]
      obtain ⟨h1, h2⟩ := bestF_mem hb
      obtain ⟨i, -, h3, h4, -⟩ := hK.ks.kept _ h1
      rw [h3] at h2 ⊢
      exact ⟨by omega, by simpa using h4⟩
theorem gs_start (H : X.Ok) (hK : POk X d) (hw : 0 ≤ d.work) : ∃ n, GoSt X k (goP X k d) (d.work + X.F) n (backP X k d) := by
  cases he : endsF X.F k d with
  | true =>
    have e1 : goP X k d = (false, d) := by unfold goP; rw [if_pos he]
    have e2 : backP X k d = d := by unfold backP; rw [if_pos he]
    rw [e1, e2]
    unfold endsF at he
    rw [Bool.and_eq_true] at he
    exact ⟨1, hK, .inr ⟨⟨he.1, of_decide_eq_true he.2, rfl⟩, rfl⟩⟩
  | false =>
    obtain ⟨h1, h2⟩ := fromF_place (k := k) H hK he
    have e2 : backP X k d = { d with s := (X.path (fromF X.F k d)).2 } := by unfold backP; rw [if_neg (by simp [he])]
    have e1 : goP X k d = ((X.path k).1, ⟨(X.path k).2, (goK X (k - fromF X.F k d) (fromF X.F k d) (d.S, d.turn)).1, (goK X (k - fromF X.F k d) (fromF X.F k d) (d.S, d.turn)).2, d.work + ((X.path k).2.steps - (X.path (fromF X.F k d)).2.steps)⟩) := by
      unfold goP; rw [if_neg (by simp [he])]
    rw [e1, e2]
    have h3 := H.steps (fromF X.F k d)
    exact ⟨_, ⟨hK.ks, _, rfl⟩, .inl ⟨fromF X.F k d, ⟨h1, h2, rfl, ⟨hw, by show d.work + (X.F - (X.path (fromF X.F k d)).2.steps) ≤ _; omega⟩, rfl⟩, rfl⟩⟩
theorem gs_here (H : X.Ok) (h : GoSt X k R Wm n d) (hm : d.s.marks = k) : R = (true, d) ∧ ∃ a : Nat, d.s.at_ = a ∧ d.s.end_ = 0 ∧ (d.s.marks ≠ 0 → a < X.E.ws.length ∧ (X.E.ws.getD a W.zero).op = 44) ∧ (d.s.marks = 0 → d.s.steps = 0) := by
  obtain ⟨hP, ⟨i, A, -⟩ | ⟨B, -⟩⟩ := h
  · obtain ⟨n', P⟩ := H.at_ i
    obtain ⟨h1, h2, h3, h4⟩ := P.mark A.there
    have hik : i = k := by
      have : d.s.marks = i := by rw [A.s]; exact h1
      omega
    subst hik
    refine ⟨?_, ?_⟩
    · have hR := A.R
      rw [A.there, Nat.sub_self, ← A.s] at hR
      rw [hR]
      show (true, (⟨d.s, d.S, d.turn, d.work + (d.s.steps - d.s.steps)⟩ : PS)) = _
      rw [Int.sub_self, Int.add_zero]
    · rcases Nat.eq_zero_or_pos i with h0 | h0
      · subst h0
        have e : d.s = newF X.E X.m := A.s
        rw [e]
        exact ⟨0, rfl, rfl, fun hh => absurd rfl hh, fun _ => rfl⟩
      · obtain ⟨q1, q2, q3, q4⟩ := h4 h0
        have es : (pathF X.E X.m X.F i).2 = d.s := A.s.symm
        rw [es] at q1 q2 q3 q4
        exact ⟨d.s.at_.toNat, by omega, q1, fun _ => ⟨by omega, q4⟩, fun hh => by omega⟩
  · obtain ⟨-, h2, -⟩ := B
    omega
theorem gs_over (H : X.Ok) (h : GoSt X k R Wm n d) (hm : d.s.marks ≠ k) (ho : overF X.F d.s = true) : R = (false, d) := by
  obtain ⟨hP, ⟨i, A, -⟩ | ⟨B, -⟩⟩ := h
  · obtain ⟨n', P⟩ := H.at_ i
    have h1 : d.s.marks = i := by rw [A.s]; exact (P.mark A.there).1
    have hik : i < k := by have := A.le; omega
    rw [A.s] at ho
    obtain ⟨h2, h3⟩ := H.over ho
    have hR := A.R
    rw [goK_end h2, X.stays h2 (show i + 1 ≤ k by omega), h3, ← A.s] at hR
    rw [hR]
    show (false, (⟨d.s, d.S, d.turn, d.work + (d.s.steps - d.s.steps)⟩ : PS)) = _
    rw [Int.sub_self, Int.add_zero]
  · exact B.2.2
theorem gs_step (H : X.Ok) (h : GoSt X k R Wm n d) (hm : d.s.marks ≠ k) (ho : overF X.F d.s = false) :
    ∃ i, i < k ∧ d.s = (X.path i).2 ∧ (0 ≤ d.s.steps ∧ d.s.steps ≤ X.F) ∧ (0 ≤ (X.path (i + 1)).2.steps ∧ (X.path (i + 1)).2.steps ≤ X.F) ∧ markF X.E (X.F - d.s.steps.toNat) d.s = X.path (i + 1) ∧ (0 ≤ d.work ∧ d.work + ((X.path (i + 1)).2.steps - d.s.steps) ≤ Wm) ∧
      KOk X (d.S, d.turn) ∧
      ((X.path (i + 1)).1 = true → (X.path (i + 1)).2.marks = (i + 1 : Nat) ∧ i + 1 ≤ 3000 ∧ ∃ n', n' < n ∧ GoSt X k R Wm n' ⟨(X.path (i + 1)).2, (keepF X (i + 1) (d.S, d.turn)).1, (keepF X (i + 1) (d.S, d.turn)).2, d.work + ((X.path (i + 1)).2.steps - d.s.steps)⟩) ∧
      ((X.path (i + 1)).1 = false → ∃ n', n' < n ∧ GoSt X k R Wm n' ⟨(X.path (i + 1)).2, d.S, d.turn, d.work + ((X.path (i + 1)).2.steps - d.s.steps)⟩) := by
  obtain ⟨hP, ⟨i, A, hn⟩ | ⟨B, -⟩⟩ := h
  · obtain ⟨n', P⟩ := H.at_ i
    have h1 : d.s.marks = i := by rw [A.s]; exact (P.mark A.there).1
    have hik : i < k := by have := A.le; omega
    have s0 := H.steps i
    have s1 := H.steps (i + 1)
    have hw := A.work
    have hge : (X.path i).2.steps ≤ (X.path (i + 1)).2.steps := by
      have hn := path_next (E := X.E) (m := X.m) (F := X.F) A.there
      have hms := H.marks i
      obtain ⟨nn, g1, g2, g3, -, -⟩ := markF_run X.E (X.F - (pathF X.E X.m X.F i).2.steps.toNat) (pathF X.E X.m X.F i).2 ⟨hms.1, by have := hms.2.1; show (X.path i).2.marks ≤ _; omega⟩
      have hF := H.hF
      have g4 := runF_steps H.hE P.sane (by show 0 ≤ (X.path i).2.steps; omega) nn (by show (X.path i).2.steps + _ ≤ _; omega)
      show _ ≤ (pathF X.E X.m X.F (i + 1)).2.steps
      rw [hn, g2, g4, g3]
      show (pathF X.E X.m X.F i).2.steps ≤ _
      omega
    refine ⟨i, hik, A.s, by rw [A.s]; exact s0, s1, ?_, ⟨hw.1, ?_⟩, hP.ks, fun ht => ?_, fun hf => ?_⟩
    · rw [A.s]
      exact (path_next A.there).symm
    · have := hw.2; omega
    · obtain ⟨n2, P2⟩ := H.at_ (i + 1)
      have q := P2.mark ht
      have q2 := P2.le
      have hF := H.hF
      refine ⟨q.1, by have := q.2.1; omega, k - (i + 1) + 2, by omega, ⟨hP.ks.keep H (Nat.succ_pos i) ht, i + 1, rfl⟩, .inl ⟨i + 1, ⟨hik, ht, rfl, ⟨?_, ?_⟩, ?_⟩, rfl⟩⟩
      · show 0 ≤ d.work + ((X.path (i + 1)).2.steps - d.s.steps)
        rw [A.s]; omega
      · show d.work + ((X.path (i + 1)).2.steps - d.s.steps) + (X.F - (X.path (i + 1)).2.steps) ≤ Wm
        have := hw.2; omega
      · have hR := A.R
        have e : k - i = (k - (i + 1)) + 1 := by omega
        rw [e, goK_next ht] at hR
        rw [hR, A.s]
        have e3 : d.work + ((X.path k).2.steps - (X.path i).2.steps) = d.work + ((X.path (i + 1)).2.steps - (X.path i).2.steps) + ((X.path k).2.steps - (X.path (i + 1)).2.steps) := by omega
        rw [e3]
    · have hov := H.notOver hf
      obtain ⟨n2, P2⟩ := H.at_ (i + 1)
      obtain ⟨-, j, j1, -, j3, -⟩ := P2.last hf
      refine ⟨1, by omega, ⟨hP.ks, i + 1, rfl⟩, .inr ⟨⟨hov, ?_, ?_⟩, rfl⟩⟩
      · show (X.path (i + 1)).2.marks < k
        have : (X.path (i + 1)).2.marks = j := j3
        omega
      · have hR := A.R
        rw [goK_end hf, X.stays hf (show i + 1 ≤ k by omega)] at hR
        rw [hR, A.s]
  · rw [B.1] at ho; cases ho
end
end Go.Proofs.Ytgjmdcbdkdmceaa.Mach

/- A player goes to a place. Printed by gen_bi.py. -/
namespace Go.Proofs.Ytgjmdcbdkdmceaa.Mach
open Go.RowKit

set_option maxRecDepth 100000 in
set_option maxHeartbeats 4000000 in
theorem go_pos (w : World) (u : Nat → Prop) (base P : Nat) (X : PX) (d : PS) (k : Nat) (h : PAt w u base P X d) (H : X.Ok) (hK : POk X d) (hw : 0 ≤ d.work ∧ d.work ≤ 1000000000) :
    Calls Try.prog 12 #[.pointer (some ⟨P, 0, none⟩), .int .i64 k] w fun e w' => e = .returned (.bool (goP X k d).1) ∧ PPost w u base P X (goP X k d).2 w' := by
  have mixed : Try.prog.follows Departure.mixedOrders = true := by kernel_rfl
  have HB := Lib.hid (back_any w u base P X d k h H hK)
  obtain ⟨n0, hG⟩ := gs_start (k := k) H hK hw.1
  obtain ⟨R, hR⟩ : ∃ R, R = goP X k d := ⟨_, rfl⟩
  rw [← hR] at hG ⊢
  obtain ⟨Wm, hWm⟩ : ∃ Wm, Wm = d.work + X.F := ⟨_, rfl⟩
  rw [← hWm] at hG
  have HW : Hid (Wm ≤ 1000010000) := Lib.hid (by have := H.hF; omega)
  have HG := Lib.hid hG
  clear h hK hR hG hWm hw
  go_enter Try.func12, Try.ntmps12
  go_wp2_with fail
  refine HB.out.mono ?_
  rintro e w1 ⟨rfl, u1, hP1, hF1⟩
  have HP1 := Lib.hid (And.intro hP1 hF1)
  clear hP1 hF1 HB
  go_wp2_with fail
  go_loopg [] n0 (fun n wr => ∃ (di : PS) (ur : Nat → Prop), Hid (GoSt X k R Wm n di) ∧ Hid (PAt wr ur base P X di ∧ Fu w wr u ur))
  case atStart => exact ⟨_, u1, HG, HP1⟩
  case round =>
    obtain ⟨di, ur, HGi, HPi⟩ := hrel
    obtain ⟨t, V, v, l, hP⟩ := HPi.out.1
    have HP := Lib.hid hP
    have HF := Lib.hid HPi.out.2
    have c10 : wr.cell? ⟨P, 10, none⟩ = some (.pointer (some ⟨V.M, 0, none⟩)) := by rw [hP.cellP]; rfl
    have HST := Lib.hid (hP.mc.status (by omega))
    have hlP := hP.ltP
    clear hP HPi HG HP1
    go_wp2_with fail
    refine HST.out.mono ?_
    rintro e w2 ⟨sv, rfl, hsv, hb2⟩
    obtain ⟨sa, sc, rfl⟩ := (Rd.of_own hsv).shape
    obtain ⟨sn, hsn⟩ : ∃ sn, sn = di.s.outs.length := ⟨_, rfl⟩
    obtain ⟨en, hen⟩ : ∃ en, en = di.s.end_ := ⟨_, rfl⟩
    obtain ⟨ex, hex⟩ : ∃ ex, ex = di.s.exit := ⟨_, rfl⟩
    obtain ⟨rd, hrd⟩ : ∃ rd, rd = di.s.read := ⟨_, rfl⟩
    obtain ⟨st, hst⟩ : ∃ st, st = di.s.steps := ⟨_, rfl⟩
    obtain ⟨mk, hmk⟩ : ∃ mk, mk = di.s.marks := ⟨_, rfl⟩
    obtain ⟨at_, hat⟩ : ∃ at_, at_ = di.s.at_ := ⟨_, rfl⟩
    rw [← hsn, ← hen, ← hex, ← hrd, ← hst, ← hmk, ← hat]
    have HD := Lib.hid (And.intro hen (And.intro hst (And.intro hmk hat)))
    clear hsv hsn hen hex hrd hst hmk hat c10 HST
    have HB2 := Lib.hid hb2
    obtain ⟨y0, y1, y2, y3, y4, y5, y6, yl⟩ := st_cells (heap_alloc_new w2 (.cells #[.int .u8 en, .int .i64 ex, .slice sa sn sc, .int .i64 rd, .int .i64 st, .int .i64 mk, .int .i64 at_] 43 (0, 0)))
    have HBA : Hid (Below wr.heap.size wr (w2.alloc (.cells #[.int .u8 en, .int .i64 ex, .slice sa sn sc, .int .i64 rd, .int .i64 st, .int .i64 mk, .int .i64 at_] 43))) := Lib.hid (hb2.alloc hb2.size _)
    have HPA := Lib.hid (HP.out.below HBA.out)
    have d6 := HPA.out.cellP 6
    have d0 := HPA.out.cellP 0
    have HFA := Lib.hid (HF.out.trans (Fu.below HBA.out))
    clear hb2
    obtain ⟨b, hb⟩ : ∃ b, b = (mk == k) := ⟨_, rfl⟩
    cases b
    · have hmk : ¬ mk = k := by simpa using hb.symm
      have hbf := hb.symm
      have HMK : Hid (di.s.marks ≠ k) := Lib.hid (by rw [← HD.out.2.2.1]; exact hmk)
      obtain ⟨o, ho⟩ : ∃ o, o = (en != 0 || decide ((X.F : Int) ≤ st)) := ⟨_, rfl⟩
      have HOV := over_any en ex rd st mk at_ X.F sa sn sc P _ d6 HPA.out.ltP
      rw [← ho] at HOV
      have HOV := Lib.hid HOV
      have HO : Hid (overF X.F di.s = o) := Lib.hid (by rw [ho, HD.out.1, HD.out.2.1]; rfl)
      clear hb hmk ho d6 d0
      go_wp2_with fail
      refine HOV.out.mono ?_
      rintro e w3 ⟨rfl, hb3⟩
      have HB3 := Lib.hid hb3
      clear hb3
      cases o
      · obtain ⟨i, hik, hs, ⟨hs0, hs1⟩, ⟨hn0, hn1⟩, hmark, ⟨hw0, hw1⟩, hKO, hT, hN⟩ := gs_step H HGi.out HMK.out HO.out
        rw [← HD.out.2.1] at hs0 hs1
        obtain ⟨sN, rfl⟩ : ∃ n : Nat, st = n := ⟨st.toNat, by omega⟩
        have hF := H.hF
        obtain ⟨q, hq⟩ : ∃ q : Nat, (X.F : Int) - (sN : Int) = q := ⟨X.F - sN, by omega⟩
        have hqe : q = X.F - di.s.steps.toNat := by rw [← HD.out.2.1]; omega
        have HP3 := Lib.hid (HPA.out.below HB3.out.drew)
        have HF3 := Lib.hid (HFA.out.trans (Fu.below HB3.out.drew))
        have HTM := HP3.out.mc.toMark H.hE q (by omega)
        rw [hqe, hmark, ← hqe] at HTM
        have HTM := Lib.hid HTM
        obtain ⟨v0, v1, v2, v3, v4, v5, v6, vl⟩ := st_cells ((HB3.out.block _ yl).trans (heap_alloc_new w2 (.cells #[.int .u8 en, .int .i64 ex, .slice sa sn sc, .int .i64 rd, .int .i64 sN, .int .i64 mk, .int .i64 at_] 43 (0, 0))))
        have k6 : _ = some (Value.int .i64 X.F) := ((HPA.out.below HB3.out).cellP 6).trans rfl
        have k10 : _ = some (Value.pointer (some ⟨V.M, 0, none⟩)) := ((HPA.out.below HB3.out).cellP 10).trans rfl
        have NXT := Lib.hid (fun (w4 : World) (t' : Nat → Nat) (hM : MAt w4 t' V.M X.E (3000 + q) (X.path (i + 1)).2) (hFx : Fx w3.drew w4 t t') => HP3.out.ran hFx (hM.sane (H.sane (i + 1))))
        have HST := Lib.hid (And.intro hik (And.intro hs (And.intro hn0 (And.intro hn1 (And.intro hw0 (And.intro hw1 (And.intro hKO (And.intro hT hN))))))))
        have hsN9 : (sN : Int) ≤ 2000 := by omega
        have hsNF : sN ≤ X.F := by omega
        clear hik hs hn0 hn1 hw0 hw1 hKO hT hN hmark hqe y0 y1 y2 y3 y4 y5 y6 yl HOV hs0 hs1
        clear v0 v1 v2 v3 v5 v6 vl
        go_wp2_with fail
        go_still_tail 11, mixed
        go_wp2_with fail
        refine HTM.out.mono ?_
        rintro e w4 ⟨rfl, t', hM, hFx⟩
        obtain ⟨ux, hP4, hF4⟩ := NXT.out w4 t' hM hFx
        have HP4 := Lib.hid hP4
        have HF4 := Lib.hid (HF3.out.trans hF4)
        clear hM hFx hP4 hF4
        obtain ⟨bm, hbm⟩ : ∃ bm, bm = (X.path (i + 1)).1 := ⟨_, rfl⟩
        rw [← hbm]
        have HBM := Lib.hid hbm
        obtain ⟨np, hnp⟩ : ∃ np, np = (X.path (i + 1)).2 := ⟨_, rfl⟩
        rw [← hnp] at HP4
        have HNP := Lib.hid hnp
        clear hbm hnp HTM NXT HP3 HF3 k6 k10 v4
        have g10 : w4.cell? ⟨P, 10, none⟩ = some (Value.pointer (some ⟨V.M, 0, none⟩)) := (HP4.out.cellP 10).trans rfl
        have HST4 := Lib.hid (HP4.out.mc.status (by omega))
        go_wp2_with fail
        refine HST4.out.mono ?_
        rintro e w5 ⟨sv5, rfl, hsv5, hb5⟩
        obtain ⟨pa, pc, rfl⟩ := (Rd.of_own hsv5).shape
        obtain ⟨pn, hpn⟩ : ∃ pn, pn = np.outs.length := ⟨_, rfl⟩
        obtain ⟨pe, hpe⟩ : ∃ pe, pe = np.end_ := ⟨_, rfl⟩
        obtain ⟨px, hpx⟩ : ∃ px, px = np.exit := ⟨_, rfl⟩
        obtain ⟨pr, hpr⟩ : ∃ pr, pr = np.read := ⟨_, rfl⟩
        obtain ⟨ps, hps⟩ : ∃ ps, ps = np.steps := ⟨_, rfl⟩
        obtain ⟨pm, hpm⟩ : ∃ pm, pm = np.marks := ⟨_, rfl⟩
        obtain ⟨pt, hpt⟩ : ∃ pt, pt = np.at_ := ⟨_, rfl⟩
        rw [← hpn, ← hpe, ← hpx, ← hpr, ← hps, ← hpm, ← hpt]
        have HQ := Lib.hid (And.intro hps hpm)
        clear hsv5 hpn hpe hpx hpr hps hpm hpt g10 HST4
        have HB5 := Lib.hid hb5
        obtain ⟨y0, y1, y2, y3, y4, y5, y6, yl⟩ := st_cells (heap_alloc_new w5 (.cells #[.int .u8 pe, .int .i64 px, .slice pa pn pc, .int .i64 pr, .int .i64 ps, .int .i64 pm, .int .i64 pt] 43 (0, 0)))
        have HBA5 : Hid (Below w4.heap.size w4 (w5.alloc (.cells #[.int .u8 pe, .int .i64 px, .slice pa pn pc, .int .i64 pr, .int .i64 ps, .int .i64 pm, .int .i64 pt] 43))) := Lib.hid (hb5.alloc hb5.size _)
        obtain ⟨w6, hw6⟩ : ∃ w6, w6 = w5.alloc (.cells #[.int .u8 pe, .int .i64 px, .slice pa pn pc, .int .i64 pr, .int .i64 ps, .int .i64 pm, .int .i64 pt] 43) := ⟨_, rfl⟩
        rw [← hw6] at y0 y1 y2 y3 y4 y5 y6 yl HBA5
        have HP6 := Lib.hid (HP4.out.below HBA5.out)
        have HF6 := Lib.hid (HF4.out.trans (Fu.below HBA5.out))
        have d11 : w6.cell? ⟨P, 11, none⟩ = some (.int .i64 di.work) := (HP6.out.cellP 11).trans rfl
        have z11 := HP6.out.frzP 11
        have hlP6 := HP6.out.ltP
        have HW6 := Lib.hid hw6
        clear hb5 hw6 y0 y1 y2 y3 y6
        go_wp2_with fail
        rw [← HW6.out]
        have hP5 : P < w5.heap.size := Nat.lt_of_lt_of_le HP4.out.ltP HB5.out.size
        obtain ⟨wk, hwk⟩ : ∃ wk, wk = di.work := ⟨_, rfl⟩
        rw [← hwk] at d11
        have hb := HST.out
        have hq := HQ.out
        rw [← HNP.out, ← hwk, ← hq.1, ← HD.out.2.1] at hb
        obtain ⟨-, -, hn0, hn1, hw0, hw1, -, -, -⟩ := hb
        have hF := H.hF
        have hW := HW.out
        have W1 : IntKind.i64.wrap (ps - sN) = ps - sN := IntWalk.i64_in _ (by omega)
        have W2 : IntKind.i64.wrap (wk + (ps - sN)) = wk + (ps - sN) := IntWalk.i64_in _ (by omega)
        have HWK := Lib.hid hwk
        clear hwk hq hn0 hn1 hw0 hw1 hF hW
        go_still_tail 11, mixed
        go_wp2_with fail
        · have hbm : (X.path (i + 1)).1 = true := by rw [← HBM.out]; assumption
          obtain ⟨hmm, hi9, n', hn', hG'⟩ := HST.out.2.2.2.2.2.2.2.1 hbm
          rw [← HNP.out, ← HQ.out.2] at hmm
          rw [← HNP.out, ← HWK.out, ← HD.out.2.1, ← HQ.out.1] at hG'
          have HX := HP6.out.setP (i := 11) (x := .int .i64 (wk + (ps - sN))) (d' := ⟨np, di.S, di.turn, wk + (ps - sN)⟩) rfl rfl rfl
          have HP7 := HX.1.below ((Below.refl _ _).drew)
          have HF7 := HF6.out.trans (HX.2.trans (Fu.below ((Below.refl _ _).drew)))
          have HK := keep_any _ ux base P X ⟨np, di.S, di.turn, wk + (ps - sN)⟩ (i + 1) ⟨t', V, v, l, HP7⟩ H HST.out.2.2.2.2.2.2.1 (by omega) HNP.out hi9
          have HG9 := Lib.hid (And.intro hn' hG')
          have HF9 := Lib.hid HF7
          rw [← hmm] at HK
          clear HX HP7 HF7 hn' hG' hmm
          refine HK.mono ?_
          rintro e w8 ⟨rfl, u8', hP8, hF8⟩
          have H8 := Lib.hid (And.intro hP8 (HF9.out.trans hF8))
          clear HK hP8 hF8
          go_wp2_with fail
          go_roundg n'
          case measure => exact HG9.out.1
          case rel => exact ⟨_, u8', Lib.hid HG9.out.2, H8⟩
        · have hbm : (X.path (i + 1)).1 = false := by rw [← HBM.out]; assumption
          obtain ⟨n', hn', hG'⟩ := HST.out.2.2.2.2.2.2.2.2 hbm
          rw [← HNP.out, ← HWK.out, ← HD.out.2.1, ← HQ.out.1] at hG'
          have HX := HP6.out.setP (i := 11) (x := .int .i64 (wk + (ps - sN))) (d' := ⟨np, di.S, di.turn, wk + (ps - sN)⟩) rfl rfl rfl
          have HP7 := HX.1.below ((Below.refl _ _).drew)
          have HF7 := HF6.out.trans (HX.2.trans (Fu.below ((Below.refl _ _).drew)))
          go_roundg n'
          case measure => exact hn'
          case rel => exact ⟨_, ux, Lib.hid hG', Lib.hid ⟨⟨t', V, v, l, HP7⟩, HF7⟩⟩
      · have HR := Lib.hid (gs_over H HGi.out HMK.out HO.out)
        go_wp2_with fail
        go_ret
        refine ⟨by rw [HR.out]; rfl, ?_⟩
        rw [HR.out]
        exact ⟨ur, ⟨t, V, v, l, HPA.out.below HB3.out⟩, HFA.out.trans (Fu.below HB3.out)⟩
    · have hmk : mk = k := by simpa using hb.symm
      have hbt := hb.symm
      obtain ⟨hR, a, ha, he, hm1, hm2⟩ := gs_here H HGi.out (by rw [← HD.out.2.2.1]; exact hmk)
      have HR := Lib.hid hR
      rw [← HD.out.2.2.2] at ha
      rw [← HD.out.1] at he
      rw [← HD.out.2.2.1] at hm1 hm2
      rw [← HD.out.2.1] at hm2
      have HD0 := HD
      clear HD
      subst ha he
      have HPS := Lib.hid (passed_no ex rd st mk a sa sn sc P X.E V.wv _ d0 HPA.out.ltP (Rd.of_own HPA.out.rw_) (fun h => (hm1 h).1) (fun h => (hm1 h).2) hm2)
      clear hb hmk hm1 hm2 d6 d0 hR
      go_wp2_with fail
      refine HPS.out.mono ?_
      rintro e w3 ⟨rfl, hb3⟩
      have HB3 := Lib.hid hb3
      clear hb3
      go_wp2_with fail
      go_ret
      refine ⟨by rw [HR.out]; rfl, ?_⟩
      rw [HR.out]
      exact ⟨ur, ⟨t, V, v, l, HPA.out.below HB3.out⟩, HFA.out.trans (Fu.below HB3.out)⟩
end Go.Proofs.Ytgjmdcbdkdmceaa.Mach

/- A player goes to a place. Printed by gen_bi.py. -/
namespace Go.Proofs.Ytgjmdcbdkdmceaa.Mach
open Go.RowKit

set_option maxRecDepth 100000 in
set_option maxHeartbeats 4000000 in
theorem go_neg (w : World) (u : Nat → Prop) (base P : Nat) (X : PX) (d : PS) (kI : Int) (hkI : kI < 0) (h : PAt w u base P X d) (H : X.Ok) (hK : POk X d) (hw : 0 ≤ d.work ∧ d.work ≤ 1000000000) :
    Calls Try.prog 12 #[.pointer (some ⟨P, 0, none⟩), .int .i64 kI] w fun e w' => e = .returned (.bool (goP X 0 d).1) ∧ PPost w u base P X (goP X 0 d).2 w' := by
  have mixed : Try.prog.follows Departure.mixedOrders = true := by kernel_rfl
  have HB := Lib.hid (back_any w u base P X d 0 h H hK)
  obtain ⟨n0, hG⟩ := gs_start (k := 0) H hK hw.1
  obtain ⟨R, hR⟩ : ∃ R, R = goP X 0 d := ⟨_, rfl⟩
  rw [← hR] at hG ⊢
  obtain ⟨Wm, hWm⟩ : ∃ Wm, Wm = d.work + X.F := ⟨_, rfl⟩
  rw [← hWm] at hG
  have HW : Hid (Wm ≤ 1000010000) := Lib.hid (by have := H.hF; omega)
  have HG := Lib.hid hG
  clear h hK hR hG hWm hw
  go_enter Try.func12, Try.ntmps12
  go_wp2_with fail
  refine HB.out.mono ?_
  rintro e w1 ⟨rfl, u1, hP1, hF1⟩
  have HP1 := Lib.hid (And.intro hP1 hF1)
  clear hP1 hF1 HB
  go_wp2_with fail
  go_loopg [] n0 (fun n wr => ∃ (di : PS) (ur : Nat → Prop), Hid (GoSt X 0 R Wm n di) ∧ Hid (PAt wr ur base P X di ∧ Fu w wr u ur))
  case atStart => exact ⟨_, u1, HG, HP1⟩
  case round =>
    obtain ⟨di, ur, HGi, HPi⟩ := hrel
    obtain ⟨t, V, v, l, hP⟩ := HPi.out.1
    have HP := Lib.hid hP
    have HF := Lib.hid HPi.out.2
    have c10 : wr.cell? ⟨P, 10, none⟩ = some (.pointer (some ⟨V.M, 0, none⟩)) := by rw [hP.cellP]; rfl
    have HST := Lib.hid (hP.mc.status (by omega))
    have hlP := hP.ltP
    clear hP HPi HG HP1
    go_wp2_with fail
    refine HST.out.mono ?_
    rintro e w2 ⟨sv, rfl, hsv, hb2⟩
    obtain ⟨sa, sc, rfl⟩ := (Rd.of_own hsv).shape
    obtain ⟨sn, hsn⟩ : ∃ sn, sn = di.s.outs.length := ⟨_, rfl⟩
    obtain ⟨en, hen⟩ : ∃ en, en = di.s.end_ := ⟨_, rfl⟩
    obtain ⟨ex, hex⟩ : ∃ ex, ex = di.s.exit := ⟨_, rfl⟩
    obtain ⟨rd, hrd⟩ : ∃ rd, rd = di.s.read := ⟨_, rfl⟩
    obtain ⟨st, hst⟩ : ∃ st, st = di.s.steps := ⟨_, rfl⟩
    obtain ⟨mk, hmk⟩ : ∃ mk, mk = di.s.marks := ⟨_, rfl⟩
    obtain ⟨at_, hat⟩ : ∃ at_, at_ = di.s.at_ := ⟨_, rfl⟩
    rw [← hsn, ← hen, ← hex, ← hrd, ← hst, ← hmk, ← hat]
    have HD := Lib.hid (And.intro hen (And.intro hst (And.intro hmk hat)))
    clear hsv hsn hen hex hrd hst hmk hat c10 HST
    have HB2 := Lib.hid hb2
    obtain ⟨y0, y1, y2, y3, y4, y5, y6, yl⟩ := st_cells (heap_alloc_new w2 (.cells #[.int .u8 en, .int .i64 ex, .slice sa sn sc, .int .i64 rd, .int .i64 st, .int .i64 mk, .int .i64 at_] 43 (0, 0)))
    have HBA : Hid (Below wr.heap.size wr (w2.alloc (.cells #[.int .u8 en, .int .i64 ex, .slice sa sn sc, .int .i64 rd, .int .i64 st, .int .i64 mk, .int .i64 at_] 43))) := Lib.hid (hb2.alloc hb2.size _)
    have HPA := Lib.hid (HP.out.below HBA.out)
    have d6 := HPA.out.cellP 6
    have d0 := HPA.out.cellP 0
    have HFA := Lib.hid (HF.out.trans (Fu.below HBA.out))
    clear hb2
    obtain ⟨b, hb⟩ : ∃ b, b = (mk == 0) := ⟨_, rfl⟩
    cases b
    · have hmk : ¬ mk = 0 := by simpa using hb.symm
      have hbf := hb.symm
      have HMK : Hid (di.s.marks ≠ 0) := Lib.hid (by rw [← HD.out.2.2.1]; exact hmk)
      obtain ⟨o, ho⟩ : ∃ o, o = (en != 0 || decide ((X.F : Int) ≤ st)) := ⟨_, rfl⟩
      have HOV := over_any en ex rd st mk at_ X.F sa sn sc P _ d6 HPA.out.ltP
      rw [← ho] at HOV
      have HOV := Lib.hid HOV
      have HO : Hid (overF X.F di.s = o) := Lib.hid (by rw [ho, HD.out.1, HD.out.2.1]; rfl)
      clear hb hmk ho d6 d0
      go_wp2_with fail
      refine HOV.out.mono ?_
      rintro e w3 ⟨rfl, hb3⟩
      have HB3 := Lib.hid hb3
      clear hb3
      cases o
      · obtain ⟨i, hik, hs, ⟨hs0, hs1⟩, ⟨hn0, hn1⟩, hmark, ⟨hw0, hw1⟩, hKO, hT, hN⟩ := gs_step H HGi.out HMK.out HO.out
        rw [← HD.out.2.1] at hs0 hs1
        obtain ⟨sN, rfl⟩ : ∃ n : Nat, st = n := ⟨st.toNat, by omega⟩
        have hF := H.hF
        obtain ⟨q, hq⟩ : ∃ q : Nat, (X.F : Int) - (sN : Int) = q := ⟨X.F - sN, by omega⟩
        have hqe : q = X.F - di.s.steps.toNat := by rw [← HD.out.2.1]; omega
        have HP3 := Lib.hid (HPA.out.below HB3.out.drew)
        have HF3 := Lib.hid (HFA.out.trans (Fu.below HB3.out.drew))
        have HTM := HP3.out.mc.toMark H.hE q (by omega)
        rw [hqe, hmark, ← hqe] at HTM
        have HTM := Lib.hid HTM
        obtain ⟨v0, v1, v2, v3, v4, v5, v6, vl⟩ := st_cells ((HB3.out.block _ yl).trans (heap_alloc_new w2 (.cells #[.int .u8 en, .int .i64 ex, .slice sa sn sc, .int .i64 rd, .int .i64 sN, .int .i64 mk, .int .i64 at_] 43 (0, 0))))
        have k6 : _ = some (Value.int .i64 X.F) := ((HPA.out.below HB3.out).cellP 6).trans rfl
        have k10 : _ = some (Value.pointer (some ⟨V.M, 0, none⟩)) := ((HPA.out.below HB3.out).cellP 10).trans rfl
        have NXT := Lib.hid (fun (w4 : World) (t' : Nat → Nat) (hM : MAt w4 t' V.M X.E (3000 + q) (X.path (i + 1)).2) (hFx : Fx w3.drew w4 t t') => HP3.out.ran hFx (hM.sane (H.sane (i + 1))))
        have HST := Lib.hid (And.intro hik (And.intro hs (And.intro hn0 (And.intro hn1 (And.intro hw0 (And.intro hw1 (And.intro hKO (And.intro hT hN))))))))
        have hsN9 : (sN : Int) ≤ 2000 := by omega
        have hsNF : sN ≤ X.F := by omega
        clear hik hs hn0 hn1 hw0 hw1 hKO hT hN hmark hqe y0 y1 y2 y3 y4 y5 y6 yl HOV hs0 hs1
        clear v0 v1 v2 v3 v5 v6 vl
        go_wp2_with fail
        go_still_tail 11, mixed
        go_wp2_with fail
        refine HTM.out.mono ?_
        rintro e w4 ⟨rfl, t', hM, hFx⟩
        obtain ⟨ux, hP4, hF4⟩ := NXT.out w4 t' hM hFx
        have HP4 := Lib.hid hP4
        have HF4 := Lib.hid (HF3.out.trans hF4)
        clear hM hFx hP4 hF4
        obtain ⟨bm, hbm⟩ : ∃ bm, bm = (X.path (i + 1)).1 := ⟨_, rfl⟩
        rw [← hbm]
        have HBM := Lib.hid hbm
        obtain ⟨np, hnp⟩ : ∃ np, np = (X.path (i + 1)).2 := ⟨_, rfl⟩
        rw [← hnp] at HP4
        have HNP := Lib.hid hnp
        clear hbm hnp HTM NXT HP3 HF3 k6 k10 v4
        have g10 : w4.cell? ⟨P, 10, none⟩ = some (Value.pointer (some ⟨V.M, 0, none⟩)) := (HP4.out.cellP 10).trans rfl
        have HST4 := Lib.hid (HP4.out.mc.status (by omega))
        go_wp2_with fail
        refine HST4.out.mono ?_
        rintro e w5 ⟨sv5, rfl, hsv5, hb5⟩
        obtain ⟨pa, pc, rfl⟩ := (Rd.of_own hsv5).shape
        obtain ⟨pn, hpn⟩ : ∃ pn, pn = np.outs.length := ⟨_, rfl⟩
        obtain ⟨pe, hpe⟩ : ∃ pe, pe = np.end_ := ⟨_, rfl⟩
        obtain ⟨px, hpx⟩ : ∃ px, px = np.exit := ⟨_, rfl⟩
        obtain ⟨pr, hpr⟩ : ∃ pr, pr = np.read := ⟨_, rfl⟩
        obtain ⟨ps, hps⟩ : ∃ ps, ps = np.steps := ⟨_, rfl⟩
        obtain ⟨pm, hpm⟩ : ∃ pm, pm = np.marks := ⟨_, rfl⟩
        obtain ⟨pt, hpt⟩ : ∃ pt, pt = np.at_ := ⟨_, rfl⟩
        rw [← hpn, ← hpe, ← hpx, ← hpr, ← hps, ← hpm, ← hpt]
        have HQ := Lib.hid (And.intro hps hpm)
        clear hsv5 hpn hpe hpx hpr hps hpm hpt g10 HST4
        have HB5 := Lib.hid hb5
        obtain ⟨y0, y1, y2, y3, y4, y5, y6, yl⟩ := st_cells (heap_alloc_new w5 (.cells #[.int .u8 pe, .int .i64 px, .slice pa pn pc, .int .i64 pr, .int .i64 ps, .int .i64 pm, .int .i64 pt] 43 (0, 0)))
        have HBA5 : Hid (Below w4.heap.size w4 (w5.alloc (.cells #[.int .u8 pe, .int .i64 px, .slice pa pn pc, .int .i64 pr, .int .i64 ps, .int .i64 pm, .int .i64 pt] 43))) := Lib.hid (hb5.alloc hb5.size _)
        obtain ⟨w6, hw6⟩ : ∃ w6, w6 = w5.alloc (.cells #[.int .u8 pe, .int .i64 px, .slice pa pn pc, .int .i64 pr, .int .i64 ps, .int .i64 pm, .int .i64 pt] 43) := ⟨_, rfl⟩
        rw [← hw6] at y0 y1 y2 y3 y4 y5 y6 yl HBA5
        have HP6 := Lib.hid (HP4.out.below HBA5.out)
        have HF6 := Lib.hid (HF4.out.trans (Fu.below HBA5.out))
        have d11 : w6.cell? ⟨P, 11, none⟩ = some (.int .i64 di.work) := (HP6.out.cellP 11).trans rfl
        have z11 := HP6.out.frzP 11
        have hlP6 := HP6.out.ltP
        have HW6 := Lib.hid hw6
        clear hb5 hw6 y0 y1 y2 y3 y6
        go_wp2_with fail
        rw [← HW6.out]
        have hP5 : P < w5.heap.size := Nat.lt_of_lt_of_le HP4.out.ltP HB5.out.size
        obtain ⟨wk, hwk⟩ : ∃ wk, wk = di.work := ⟨_, rfl⟩
        rw [← hwk] at d11
        have hb := HST.out
        have hq := HQ.out
        rw [← HNP.out, ← hwk, ← hq.1, ← HD.out.2.1] at hb
        obtain ⟨-, -, hn0, hn1, hw0, hw1, -, -, -⟩ := hb
        have hF := H.hF
        have hW := HW.out
        have W1 : IntKind.i64.wrap (ps - sN) = ps - sN := IntWalk.i64_in _ (by omega)
        have W2 : IntKind.i64.wrap (wk + (ps - sN)) = wk + (ps - sN) := IntWalk.i64_in _ (by omega)
        have HWK := Lib.hid hwk
        clear hwk hq hn0 hn1 hw0 hw1 hF hW
        go_still_tail 11, mixed
        go_wp2_with fail
        · have hbm : (X.path (i + 1)).1 = true := by rw [← HBM.out]; assumption
          obtain ⟨hmm, hi9, n', hn', hG'⟩ := HST.out.2.2.2.2.2.2.2.1 hbm
          rw [← HNP.out, ← HQ.out.2] at hmm
          rw [← HNP.out, ← HWK.out, ← HD.out.2.1, ← HQ.out.1] at hG'
          have HX := HP6.out.setP (i := 11) (x := .int .i64 (wk + (ps - sN))) (d' := ⟨np, di.S, di.turn, wk + (ps - sN)⟩) rfl rfl rfl
          have HP7 := HX.1.below ((Below.refl _ _).drew)
          have HF7 := HF6.out.trans (HX.2.trans (Fu.below ((Below.refl _ _).drew)))
          have HK := keep_any _ ux base P X ⟨np, di.S, di.turn, wk + (ps - sN)⟩ (i + 1) ⟨t', V, v, l, HP7⟩ H HST.out.2.2.2.2.2.2.1 (by omega) HNP.out hi9
          have HG9 := Lib.hid (And.intro hn' hG')
          have HF9 := Lib.hid HF7
          rw [← hmm] at HK
          clear HX HP7 HF7 hn' hG' hmm
          refine HK.mono ?_
          rintro e w8 ⟨rfl, u8', hP8, hF8⟩
          have H8 := Lib.hid (And.intro hP8 (HF9.out.trans hF8))
          clear HK hP8 hF8
          go_wp2_with fail
          go_roundg n'
          case measure => exact HG9.out.1
          case rel => exact ⟨_, u8', Lib.hid HG9.out.2, H8⟩
        · have hbm : (X.path (i + 1)).1 = false := by rw [← HBM.out]; assumption
          obtain ⟨n', hn', hG'⟩ := HST.out.2.2.2.2.2.2.2.2 hbm
          rw [← HNP.out, ← HWK.out, ← HD.out.2.1, ← HQ.out.1] at hG'
          have HX := HP6.out.setP (i := 11) (x := .int .i64 (wk + (ps - sN))) (d' := ⟨np, di.S, di.turn, wk + (ps - sN)⟩) rfl rfl rfl
          have HP7 := HX.1.below ((Below.refl _ _).drew)
          have HF7 := HF6.out.trans (HX.2.trans (Fu.below ((Below.refl _ _).drew)))
          go_roundg n'
          case measure => exact hn'
          case rel => exact ⟨_, ux, Lib.hid hG', Lib.hid ⟨⟨t', V, v, l, HP7⟩, HF7⟩⟩
      · have HR := Lib.hid (gs_over H HGi.out HMK.out HO.out)
        go_wp2_with fail
        go_ret
        refine ⟨by rw [HR.out]; rfl, ?_⟩
        rw [HR.out]
        exact ⟨ur, ⟨t, V, v, l, HPA.out.below HB3.out⟩, HFA.out.trans (Fu.below HB3.out)⟩
    · have hmk : mk = 0 := by simpa using hb.symm
      have hbt := hb.symm
      obtain ⟨hR, a, ha, he, hm1, hm2⟩ := gs_here H HGi.out (by rw [← HD.out.2.2.1]; exact hmk)
      have HR := Lib.hid hR
      rw [← HD.out.2.2.2] at ha
      rw [← HD.out.1] at he
      rw [← HD.out.2.2.1] at hm1 hm2
      rw [← HD.out.2.1] at hm2
      have HD0 := HD
      clear HD
      subst ha he
      have HPS := Lib.hid (passed_no ex rd st mk a sa sn sc P X.E V.wv _ d0 HPA.out.ltP (Rd.of_own HPA.out.rw_) (fun h => (hm1 h).1) (fun h => (hm1 h).2) hm2)
      clear hb hmk hm1 hm2 d6 d0 hR
      go_wp2_with fail
      refine HPS.out.mono ?_
      rintro e w3 ⟨rfl, hb3⟩
      have HB3 := Lib.hid hb3
      clear hb3
      go_wp2_with fail
      go_ret
      refine ⟨by rw [HR.out]; rfl, ?_⟩
      rw [HR.out]
      exact ⟨ur, ⟨t, V, v, l, HPA.out.below HB3.out⟩, HFA.out.trans (Fu.below HB3.out)⟩
end Go.Proofs.Ytgjmdcbdkdmceaa.Mach

/- A player's answers: where it is, whether it is over, how much it has worked, what is kept, its machine's status and bytes. -/
namespace Go.Proofs.Ytgjmdcbdkdmceaa.Mach
open Go.RowKit

theorem go_any (w : World) (u : Nat → Prop) (base P : Nat) (X : PX) (d : PS) (kI : Int) (h : PAt w u base P X d) (H : X.Ok) (hK : POk X d) (hw : 0 ≤ d.work ∧ d.work ≤ 1000000000) :
    Calls Try.prog 12 #[.pointer (some ⟨P, 0, none⟩), .int .i64 kI] w fun e w' => e = .returned (.bool (goP X kI.toNat d).1) ∧ PPost w u base P X (goP X kI.toNat d).2 w' := by
  by_cases hk : kI < 0
  · have e : kI.toNat = 0 := by omega
    rw [e]
    exact go_neg w u base P X d kI hk h H hK hw
  · obtain ⟨k, rfl⟩ := Int.eq_ofNat_of_zero_le (by omega : 0 ≤ kI)
    exact go_pos w u base P X d k h H hK hw
section
variable {w : World} {u : Nat → Prop} {base P : Nat} {X : PX} {d : PS}
set_option maxHeartbeats 1000000 in
theorem PAt.status (h : PAt w u base P X d) : Calls Try.prog 21 #[.pointer (some ⟨P, 0, none⟩)] w fun e w' => MStat w d.s e w' := by
  obtain ⟨t, V, v, l, h⟩ := h
  have HP := Lib.hid h
  have c10 : w.cell? ⟨P, 10, none⟩ = some (.pointer (some ⟨V.M, 0, none⟩)) := by rw [h.cellP]; rfl
  have hlP := h.ltP
  clear h
  go_enter Try.func21, Try.ntmps21
  go_wp2_with fail
  have hz := heap_alloc_new w (.cells #[.int .u8 0, .int .i64 0, .slice none 0 0, .int .i64 0, .int .i64 0, .int .i64 0, .int .i64 0] 43 (0, 0))
  refine ((HP.out.below ((Below.refl _ _).alloc (Nat.le_refl _) _)).mc.status (by omega)).mono ?_
  rintro e wc ⟨sv, rfl, hsv, hb⟩
  obtain ⟨sa, sc, rfl⟩ := (Rd.of_own hsv).shape
  have hz2 := (hb.block _ (Array.getElem?_eq_some_iff.1 hz).1).trans hz
  obtain ⟨y0, y1, y2, y3, y4, y5, y6, yl⟩ := st_cells hz2
  have fr : ∀ i, wc.frozen? ⟨w.heap.size, i, none⟩ = false := fun i => by simp [World.frozen?, hz2]
  have hb2 : Below w.heap.size w wc := ((Below.refl _ _).alloc (Nat.le_refl _) _).trans (hb.mono (by simp))
  have HQ := Lib.hid (And.intro (odown hsv (by simp : w.heap.size ≤ _)) (And.intro hb2 hz2))
  clear hsv hb hb2 hz2 hz HP
  have z0 := fr 0
  have z1 := fr 1
  have z2 := fr 2
  have z3 := fr 3
  have z4 := fr 4
  have z5 := fr 5
  have z6 := fr 6
  clear fr
  go_wp2_with fail
  have t1 := turn_set HQ.out.2.2 (.int .u8 d.s.end_) (i := 0)
  have t2 := t1.trans (turn_set t1.at_ (.int .i64 d.s.exit) (i := 1))
  have t3 := t2.trans (turn_set t2.at_ (.slice sa d.s.outs.length sc) (i := 2))
  have t4 := t3.trans (turn_set t3.at_ (.int .i64 d.s.read) (i := 3))
  have t5 := t4.trans (turn_set t4.at_ (.int .i64 d.s.steps) (i := 4))
  have t6 := t5.trans (turn_set t5.at_ (.int .i64 d.s.marks) (i := 5))
  have t7 := t6.trans (turn_set t6.at_ (.int .i64 d.s.at_) (i := 6))
  clear t1 t2 t3 t4 t5 t6
  have hT : Turn wc _ w.heap.size (.cells #[.int .u8 d.s.end_, .int .i64 d.s.exit, .slice sa d.s.outs.length sc, .int .i64 d.s.read, .int .i64 d.s.steps, .int .i64 d.s.marks, .int .i64 d.s.at_] 43 (0, 0)) := t7
  clear t7
  obtain ⟨W, hW⟩ : ∃ W, W = ((((((wc.setCell ⟨w.heap.size, 0, none⟩ (.int .u8 d.s.end_)).setCell ⟨w.heap.size, 1, none⟩ (.int .i64 d.s.exit)).setCell ⟨w.heap.size, 2, none⟩ (.slice sa d.s.outs.length sc)).setCell ⟨w.heap.size, 3, none⟩ (.int .i64 d.s.read)).setCell ⟨w.heap.size, 4, none⟩ (.int .i64 d.s.steps)).setCell ⟨w.heap.size, 5, none⟩ (.int .i64 d.s.marks)).setCell ⟨w.heap.size, 6, none⟩ (.int .i64 d.s.at_) := ⟨_, rfl⟩
  rw [← hW] at hT ⊢
  obtain ⟨q0, q1, q2, q3, q4, q5, q6, -⟩ := st_cells hT.at_
  refine bodyPost_ret (v := .agg #[.int .u8 d.s.end_, .int .i64 d.s.exit, .slice sa d.s.outs.length sc, .int .i64 d.s.read, .int .i64 d.s.steps, .int .i64 d.s.marks, .int .i64 d.s.at_]) ?_ rfl ⟨_, rfl, ?_, hT.below HQ.out.2.1 (Nat.le_refl _) HQ.out.2.1.size⟩
  · simp [results, Try.results21, go_sem, q0, q1, q2, q3, q4, q5, q6]
  · refine osame HQ.out.1 fun k hk => ?_
    obtain ⟨_, cur, hc⟩ := oblk HQ.out.1 k hk
    exact hT.block k (Array.getElem?_eq_some_iff.1 hc).1 (blk_ne hc HQ.out.2.2 (cells_ne (by decide)))
set_option maxHeartbeats 1000000 in
theorem PAt.atq (h : PAt w u base P X d) : Calls Try.prog 22 #[.pointer (some ⟨P, 0, none⟩)] w fun e w' => e = .returned (.int .i64 d.s.marks) ∧ Below w.heap.size w w' := by
  have HST := Lib.hid h.status
  go_enter Try.func22, Try.ntmps22
  go_wp2_with fail
  refine HST.out.mono ?_
  rintro e w' ⟨sv, rfl, hsv, hb⟩
  obtain ⟨sa, sc, rfl⟩ := (Rd.of_own hsv).shape
  have HQ := Lib.hid hb
  clear hsv hb HST
  have f5 := run_field_s5
  go_wp2_with fail
  go_ret
  refine ⟨?_, HQ.out⟩
  go_light
  rfl
set_option maxHeartbeats 1000000 in
theorem PAt.over (h : PAt w u base P X d) : Calls Try.prog 23 #[.pointer (some ⟨P, 0, none⟩)] w fun e w' => e = .returned (.bool (overF X.F d.s)) ∧ Below w.heap.size w w' := by
  obtain ⟨t, V, v, l, h⟩ := h
  have HP := Lib.hid h
  have HST := Lib.hid (h.mc.status (by omega))
  have c10 : w.cell? ⟨P, 10, none⟩ = some (.pointer (some ⟨V.M, 0, none⟩)) := by rw [h.cellP]; rfl
  have hlP := h.ltP
  clear h
  go_enter Try.func23, Try.ntmps23
  go_wp2_with fail
  refine HST.out.mono ?_
  rintro e w2 ⟨sv, rfl, hsv, hb⟩
  obtain ⟨sa, sc, rfl⟩ := (Rd.of_own hsv).shape
  have HO : Hid (Calls Try.prog 38 _ w2 _) := Lib.hid (over_any d.s.end_ d.s.exit d.s.read d.s.steps d.s.marks d.s.at_ X.F sa d.s.outs.length sc P w2 ((HP.out.below hb).cellP 6) (HP.out.below hb).ltP)
  have HQ := Lib.hid hb
  clear hsv hb HST c10
  go_wp2_with fail
  refine HO.out.mono ?_
  rintro e w3 ⟨rfl, hb3⟩
  have HB3 := Lib.hid (HQ.out.trans (hb3.mono HQ.out.size))
  clear hb3 HO
  obtain ⟨b, hb⟩ : ∃ b, b = (d.s.end_ != 0 || decide ((X.F : Int) ≤ d.s.steps)) := ⟨_, rfl⟩
  rw [← hb]
  have HBB : Hid (overF X.F d.s = b) := Lib.hid (by rw [hb]; rfl)
  clear hb
  go_wp2_with fail
  go_ret
  refine ⟨?_, HB3.out⟩
  rw [HBB.out]
  go_light
  rfl
set_option maxHeartbeats 1000000 in
theorem PAt.workq (h : PAt w u base P X d) : Calls Try.prog 24 #[.pointer (some ⟨P, 0, none⟩)] w fun e w' => e = .returned (.int .i64 d.work) ∧ w' = w := by
  obtain ⟨t, V, v, l, h⟩ := h
  have c11 : w.cell? ⟨P, 11, none⟩ = some (.int .i64 d.work) := by rw [h.cellP]; rfl
  clear h
  go_enter Try.func24, Try.ntmps24
  go_wp2_with fail
  go_ret
  exact ⟨rfl, rfl⟩
set_option maxHeartbeats 1000000 in
theorem PAt.kept (h : PAt w u base P X d) (hS : d.S.length ≤ 64) : Calls Try.prog 25 #[.pointer (some ⟨P, 0, none⟩)] w fun e w' => ∃ q, e = .returned q ∧ ownI w' w.heap.size q (d.S.map (·.1)) ∧ Below w.heap.size w w' := by
  obtain ⟨t, V, v, l, h⟩ := h
  have c9 : w.cell? ⟨P, 9, none⟩ = some (.pointer (some ⟨V.Bs, 0, none⟩)) := by rw [h.cellP]; rfl
  have hlP := h.ltP
  have e1 : l.map (·.1) = d.S.map (·.1) := map_fst h.st
  have HL := list_any w base V.Bs X.most v l d.S h.st (by have := h.st.len; omega)
  rw [e1] at HL
  have HL := Lib.hid HL
  clear h e1
  go_enter Try.func25, Try.ntmps25
  go_wp2_with fail
  refine HL.out.mono ?_
  rintro e w' ⟨q, rfl, hq, hb⟩
  have HQ := Lib.hid (And.intro hq hb)
  clear hq hb HL
  go_wp2_with fail
  go_ret
  exact ⟨_, rfl, HQ.out.1, HQ.out.2⟩
set_option maxHeartbeats 1000000 in
theorem PAt.save (h : PAt w u base P X d) (H : X.Ok) : Calls Try.prog 17 #[.pointer (some ⟨P, 0, none⟩)] w fun e w' => SaveP w (saveB d.s) e w' := by
  obtain ⟨t, V, v, l, h⟩ := h
  have HS := Lib.hid (h.mc.save H.hE (by omega))
  have c10 : w.cell? ⟨P, 10, none⟩ = some (.pointer (some ⟨V.M, 0, none⟩)) := by rw [h.cellP]; rfl
  have hlP := h.ltP
  clear h
  go_enter Try.func17, Try.ntmps17
  go_wp2_with fail
  refine HS.out.mono ?_
  rintro e w' ⟨pv, rfl, hb, hp⟩
  have HQ := Lib.hid (And.intro hb hp)
  clear hb hp HS
  go_wp2_with fail
  go_ret
  exact ⟨_, rfl, HQ.out.1, HQ.out.2⟩
end
end Go.Proofs.Ytgjmdcbdkdmceaa.Mach
