/- A player: the machine is where going on to a place begins. -/
import Derived.Test.YtgjmdcbdkdmceaaQBf
namespace Go.Proofs.Ytgjmdcbdkdmceaa.Mach
open Go.RowKit

/-- What is a machine made anew, of the player's own image. -/
theorem PlR.load {w W : World} {u : Nat → Prop} {t : Nat → Nat} {base P : Nat} {X : PX} {V : PV} {d : PS} {v : Value} {l : List Mo} (h : PlR w u t base P X V d v l) (H : X.Ok) {mn : Nat} (hmn : X.m = mn) (hb : Below w.heap.size w W) {pv : Value} {k : Nat} (hp : RdB W pv (saveB (X.path k).2)) :
    Calls Try.prog 52 #[.agg #[V.wv, V.ev, .int .i64 mn, .slice none 0 0], V.iv, pv] W fun e w' => ∃ M t', e = .returned (.tuple #[.pointer (some ⟨M, 0, none⟩), .int .i64 0]) ∧ MAt w' t' M X.E 3000 (X.path k).2 ∧ Below W.heap.size W w' ∧ ∀ k, k < W.heap.size → t' k = 0 := by
  have h' := h.below hb
  have hE := H.hE
  have hm := H.hm
  have hby := H.bytes k
  have hwl := hE.wl
  have hel := hE.el
  have hil := H.il
  refine (mload_any V.wv V.ev (.slice none 0 0) V.iv pv X.E mn 0 [] (saveB (X.path k).2) W (Rd.of_own h'.rw_) (Rd.of_own h'.re) (Rd.nil W 1) (by simp) (Rd.of_own h'.ri) hp (isB_save _) (by omega) (by omega) (by omega) (by omega) (by omega) (by omega)).mono ?_
  rintro e w' hL
  rw [loadF_save (H.sane k) hE (by omega)] at hL
  rcases hL with ⟨h1, -⟩ | ⟨s, M, t', base', V', cl, h1, rfl, h3, h4, h5⟩
  · cases h1
  · cases h1
    exact ⟨M, t', rfl, ⟨base', V', cl, h3, H.sane k⟩, h4, h5⟩
theorem PlR.new {w W : World} {u : Nat → Prop} {t : Nat → Nat} {base P : Nat} {X : PX} {V : PV} {d : PS} {v : Value} {l : List Mo} (h : PlR w u t base P X V d v l) (H : X.Ok) {mn : Nat} (hmn : X.m = mn) (hb : Below w.heap.size w W) :
    Calls Try.prog 13 #[.agg #[V.wv, V.ev, .int .i64 mn, .slice none 0 0], V.iv] W fun e w' => ∃ M t', e = .returned (.tuple #[.pointer (some ⟨M, 0, none⟩), .int .i64 0]) ∧ MAt w' t' M X.E 3000 (X.path 0).2 ∧ Below W.heap.size W w' ∧ ∀ k, k < W.heap.size → t' k = 0 := by
  have h' := h.below hb
  have hE := H.hE
  have hm := H.hm
  have hwl := hE.wl
  have hel := hE.el
  have hil := H.il
  refine (mnew_any V.wv V.ev (.slice none 0 0) V.iv X.E mn 0 [] W (Rd.of_own h'.rw_) (Rd.of_own h'.re) (Rd.nil W 1) (by simp) (Rd.of_own h'.ri) (by omega) (by omega) (by omega) (by omega) (by omega)).mono ?_
  rintro e w' ⟨M, t', V', cl, rfl, h3, h4, h5, -⟩
  have hs := H.sane 0
  have e0 : (X.path 0).2 = newF X.E mn := by rw [← hmn]; rfl
  rw [e0] at hs ⊢
  exact ⟨M, t', rfl, ⟨_, V', cl, h3, hs⟩, h4, h5⟩
/-- Where going on begins, if it isn't over. -/
theorem POk.from {X : PX} {d : PS} (h : POk X d) (H : X.Ok) {k : Nat} : (onF X.F k d = true → d.s = (X.path d.s.marks.toNat).2 ∧ 0 ≤ d.s.marks) := fun hon => by
  obtain ⟨j, hj⟩ := h.at_
  unfold onF at hon
  rw [Bool.and_eq_true, Bool.and_eq_true] at hon
  have ho : overF X.F d.s = false := by simpa using hon.1.1
  rw [hj] at ho
  obtain ⟨h1, h2⟩ := H.here ho
  rw [hj, h2]
  exact ⟨by simp, by omega⟩
/-- What the place to go on from makes of a player. -/
def backP (X : PX) (k : Nat) (d : PS) : PS := if endsF X.F k d then d else { d with s := (X.path (fromF X.F k d)).2 }
theorem backP_ends {X : PX} {k : Nat} {d : PS} (h1 : (d.s.end_ != 0 || decide ((X.F : Int) ≤ d.s.steps)) = true) (h2 : d.s.marks < k) : backP X k d = d := by
  have : endsF X.F k d = true := by
    unfold endsF
    rw [Bool.and_eq_true]
    exact ⟨h1, decide_eq_true h2⟩
  unfold backP
  rw [if_pos this]
theorem backP_on {X : PX} {k : Nat} {d : PS} (hK : POk X d) (H : X.Ok) (h1 : (d.s.end_ != 0 || decide ((X.F : Int) ≤ d.s.steps)) = false) (h2 : d.s.marks ≤ k) (h3 : bestF d.S k = none ∨ ∃ b, bestF d.S k = some b ∧ b.1 ≤ d.s.marks) : backP X k d = d := by
  have ho : overF X.F d.s = false := h1
  have hon : onF X.F k d = true := by
    unfold onF
    rw [Bool.and_eq_true, Bool.and_eq_true, ho]
    refine ⟨⟨rfl, decide_eq_true h2⟩, ?_⟩
    rcases h3 with h3 | ⟨b, h3, h4⟩
    · rw [h3]
    · rw [h3]; exact decide_eq_true h4
  unfold backP
  split
  · rfl
  · have hf : fromF X.F k d = d.s.marks.toNat := by unfold fromF; rw [if_pos hon]
    rw [hf, ← (hK.from H hon).1]
theorem backP_new {X : PX} {k : Nat} {d : PS} (h1 : ¬ ((d.s.end_ != 0 || decide ((X.F : Int) ≤ d.s.steps)) = true ∧ d.s.marks < k)) (h2 : (d.s.end_ != 0 || decide ((X.F : Int) ≤ d.s.steps)) = true ∨ ¬ d.s.marks ≤ k) (h3 : bestF d.S k = none) : backP X k d = { d with s := (X.path 0).2 } := by
  have he : ¬ endsF X.F k d = true := by
    unfold endsF
    rw [Bool.and_eq_true]
    exact fun h => h1 ⟨h.1, of_decide_eq_true h.2⟩
  have hon : ¬ onF X.F k d = true := by
    unfold onF
    rw [Bool.and_eq_true, Bool.and_eq_true]
    intro h
    rcases h2 with h2 | h2
    · have : overF X.F d.s = true := h2
      rw [this] at h
      simp at h
    · exact h2 (of_decide_eq_true h.1.2)
  unfold backP
  rw [if_neg he]
  have hf : fromF X.F k d = 0 := by unfold fromF; rw [if_neg hon, h3]
  rw [hf]
theorem backP_load {X : PX} {k : Nat} {d : PS} {b : Int × List Int} (h1 : ¬ ((d.s.end_ != 0 || decide ((X.F : Int) ≤ d.s.steps)) = true ∧ d.s.marks < k)) (h2 : (d.s.end_ != 0 || decide ((X.F : Int) ≤ d.s.steps)) = true ∨ ¬ d.s.marks ≤ k ∨ ¬ b.1 ≤ d.s.marks) (h3 : bestF d.S k = some b) : backP X k d = { d with s := (X.path b.1.toNat).2 } := by
  have he : ¬ endsF X.F k d = true := by
    unfold endsF
    rw [Bool.and_eq_true]
    exact fun h => h1 ⟨h.1, of_decide_eq_true h.2⟩
  have hon : ¬ onF X.F k d = true := by
    unfold onF
    rw [Bool.and_eq_true, Bool.and_eq_true, h3]
    intro h
    rcases h2 with h2 | h2 | h2
    · have : overF X.F d.s = true := h2
      rw [this] at h
      simp at h
    · exact h2 (of_decide_eq_true h.1.2)
    · exact h2 (of_decide_eq_true h.2)
  unfold backP
  rw [if_neg he]
  have hf : fromF X.F k d = b.1.toNat := by unfold fromF; rw [if_neg hon, h3]
  rw [hf]
theorem st_cells {w : World} {B : Nat} {en ex rd st mk at_ : Int} {sv : Value} (h : w.heap[B]? = some (.cells #[.int .u8 en, .int .i64 ex, sv, .int .i64 rd, .int .i64 st, .int .i64 mk, .int .i64 at_] 43 (0, 0))) :
    w.cell? ⟨B, 0, none⟩ = some (.int .u8 en) ∧ w.cell? ⟨B, 1, none⟩ = some (.int .i64 ex) ∧ w.cell? ⟨B, 2, none⟩ = some sv ∧ w.cell? ⟨B, 3, none⟩ = some (.int .i64 rd) ∧ w.cell? ⟨B, 4, none⟩ = some (.int .i64 st) ∧ w.cell? ⟨B, 5, none⟩ = some (.int .i64 mk) ∧ w.cell? ⟨B, 6, none⟩ = some (.int .i64 at_) ∧ B < w.heap.size :=
  ⟨by simp [World.cell?, h], by simp [World.cell?, h], by simp [World.cell?, h], by simp [World.cell?, h], by simp [World.cell?, h], by simp [World.cell?, h], by simp [World.cell?, h], (Array.getElem?_eq_some_iff.1 h).1⟩
set_option maxRecDepth 100000 in
set_option maxHeartbeats 8000000 in
theorem back_any (w : World) (u : Nat → Prop) (base P : Nat) (X : PX) (d : PS) (k : Nat) (h : PAt w u base P X d) (H : X.Ok) (hK : POk X d) :
    Calls Try.prog 36 #[.pointer (some ⟨P, 0, none⟩), .int .i64 k] w fun e w' => e = .returned (.tuple #[]) ∧ PPost w u base P X (backP X k d) w' := by
  obtain ⟨t, V, v, l, h⟩ := h
  obtain ⟨mn, hmn⟩ : ∃ mn : Nat, X.m = mn := ⟨X.m.toNat, by have := H.hm; omega⟩
  have HP := Lib.hid h
  have hlP := h.ltP
  have c10 : w.cell? ⟨P, 10, none⟩ = some (.pointer (some ⟨V.M, 0, none⟩)) := by rw [h.cellP]; rfl
  have HST := Lib.hid (h.mc.status (by omega))
  have HMN := Lib.hid hmn
  obtain ⟨bp, hbp⟩ : ∃ bp, bp = backP X k d := ⟨_, rfl⟩
  rw [← hbp]
  have HBP := Lib.hid hbp
  obtain ⟨wa, wc, hwv⟩ := (Rd.of_own h.rw_).shape
  obtain ⟨ea, ec, hev⟩ := (Rd.of_own h.re).shape
  obtain ⟨ia, ic, hiv⟩ := (Rd.of_own h.ri).shape
  have HNf := fun W (hb : Below w.heap.size w W) => h.new H hmn hb
  have HLf := fun W (hb : Below w.heap.size w W) (pv : Value) (j : Nat) (hp : RdB W pv (saveB (X.path j).2)) => h.load H hmn hb hp
  have HCf : ∀ W, Below w.heap.size w W → W.cell? ⟨P, 0, none⟩ = some V.wv ∧ W.cell? ⟨P, 1, none⟩ = some V.ev ∧ W.cell? ⟨P, 2, none⟩ = some (.int .i64 mn) ∧ W.cell? ⟨P, 3, none⟩ = some (.slice none 0 0) ∧ W.cell? ⟨P, 4, none⟩ = some V.iv ∧ W.cell? ⟨P, 10, none⟩ = some (.pointer (some ⟨V.M, 0, none⟩)) ∧ W.frozen? ⟨P, 10, none⟩ = false := fun W hb => by
    have h' := h.below hb
    refine ⟨by rw [h'.cellP]; rfl, by rw [h'.cellP]; rfl, by rw [h'.cellP, ← hmn]; rfl, by rw [h'.cellP]; rfl, by rw [h'.cellP]; rfl, by rw [h'.cellP]; rfl, h'.frzP 10⟩
  simp only [hwv, hev, hiv] at HNf HLf HCf
  have HNf := Lib.hid HNf
  have HLf := Lib.hid HLf
  have HCf := Lib.hid HCf
  clear h hmn hbp hwv hev hiv
  go_enter Try.func36, Try.ntmps36
  go_wp2_with fail
  refine HST.out.mono ?_
  rintro e w1 ⟨sv, rfl, hsv, hb1⟩
  obtain ⟨sa, sc, rfl⟩ := (Rd.of_own hsv).shape
  obtain ⟨sn, hsn⟩ : ∃ sn, sn = d.s.outs.length := ⟨_, rfl⟩
  obtain ⟨en, hen⟩ : ∃ en, en = d.s.end_ := ⟨_, rfl⟩
  obtain ⟨ex, hex⟩ : ∃ ex, ex = d.s.exit := ⟨_, rfl⟩
  obtain ⟨rd, hrd⟩ : ∃ rd, rd = d.s.read := ⟨_, rfl⟩
  obtain ⟨st, hst⟩ : ∃ st, st = d.s.steps := ⟨_, rfl⟩
  obtain ⟨mk, hmk⟩ : ∃ mk, mk = d.s.marks := ⟨_, rfl⟩
  obtain ⟨at_, hat⟩ : ∃ at_, at_ = d.s.at_ := ⟨_, rfl⟩
  rw [← hsn, ← hen, ← hex, ← hrd, ← hst, ← hmk, ← hat]
  have HD := Lib.hid (And.intro hen (And.intro hst hmk))
  obtain ⟨y0, y4, y5, y6, hby⟩ := st_blk w1 en ex rd st mk at_ (.slice sa sn sc) _ rfl
  have HB1 : Hid (Below w.heap.size w (w1.alloc (.cells #[.int .u8 en, .int .i64 ex, .slice sa sn sc, .int .i64 rd, .int .i64 st, .int .i64 mk, .int .i64 at_] 43))) := hb1.trans (hby.mono hb1.size)
  have HX := Lib.hid (heap_alloc_new w1 (.cells #[.int .u8 en, .int .i64 ex, .slice sa sn sc, .int .i64 rd, .int .i64 st, .int .i64 mk, .int .i64 at_] 43 (0, 0)))
  have d9 : w1.cell? ⟨P, 9, none⟩ = some (.pointer (some ⟨V.Bs, 0, none⟩)) := by rw [(HP.out.below hb1).cellP]; rfl
  have hlP1 : P < w1.heap.size := Nat.lt_of_lt_of_le hlP hb1.size
  clear hb1 hby c10 HST hsv hsn hen hex hrd hst hmk hat
  go_wp2_with fail
  refine (best_any k _ base V.Bs X.most v l d.S (HP.out.below HB1.out).st hK.ks.ris (by have := hK.ks.small H; have := HP.out.st.len; simp at *; omega) (fun m hm => ?_)).mono ?_
  · obtain ⟨i, h1, h2, h3, h4⟩ := hK.ks.kept m hm
    rw [h4]
    exact Nat.le_trans (H.bytes i) (by omega)
  rintro e w2 hbest
  have hb2 : Below w.heap.size w w2 ∧ w2.heap[w1.heap.size]? = some (.cells #[.int .u8 en, .int .i64 ex, .slice sa sn sc, .int .i64 rd, .int .i64 st, .int .i64 mk, .int .i64 at_] 43 (0, 0)) := by
    have hb : Below (w1.alloc (.cells #[.int .u8 en, .int .i64 ex, .slice sa sn sc, .int .i64 rd, .int .i64 st, .int .i64 mk, .int .i64 at_] 43)).heap.size (w1.alloc (.cells #[.int .u8 en, .int .i64 ex, .slice sa sn sc, .int .i64 rd, .int .i64 st, .int .i64 mk, .int .i64 at_] 43)) w2 := by
      rcases hbest with ⟨-, -, hb⟩ | ⟨i, hi, h1, h2, q, -, hq, hb⟩ <;> exact hb
    exact ⟨HB1.out.trans (hb.mono HB1.out.size), (hb.block _ (Array.getElem?_eq_some_iff.1 HX.out).1).trans HX.out⟩
  obtain ⟨z0, z1, z2, z3, z4, z5, z6, zl⟩ := st_cells hb2.2
  have HP2 := Lib.hid (HP.out.below hb2.1)
  have d6 : w2.cell? ⟨P, 6, none⟩ = some (.int .i64 X.F) := by rw [HP2.out.cellP]; rfl
  have hlP2 : P < w2.heap.size := HP2.out.ltP
  obtain ⟨o, ho⟩ : ∃ o, o = (en != 0 || decide ((X.F : Int) ≤ st)) := ⟨_, rfl⟩
  have HOV : Hid (∀ W, Below w2.heap.size w2 W → Calls Try.prog 38 #[.pointer (some ⟨P, 0, none⟩), .agg #[.int .u8 en, .int .i64 ex, .slice sa sn sc, .int .i64 rd, .int .i64 st, .int .i64 mk, .int .i64 at_]] W fun e w' => e = .returned (.bool o) ∧ Below W.heap.size W w') := Lib.hid fun W hb => by
    rw [ho]
    exact over_any en ex rd st mk at_ X.F sa sn sc P W ((hb.cell (p := ⟨P, 6, none⟩) hlP2).trans d6) (Nat.lt_of_lt_of_le hlP2 hb.size)
  have HO : Hid ((d.s.end_ != 0 || decide ((X.F : Int) ≤ d.s.steps)) = o) := Lib.hid (by rw [ho, HD.out.1, HD.out.2.1])
  have HM : Hid (d.s.marks = mk) := Lib.hid HD.out.2.2.symm
  have HB2 := Lib.hid hb2
  clear hb2 ho d9 hlP1 HB1 HX y0 y4 y5 y6 d6 HD
  rcases hbest with ⟨hno, rfl, -⟩ | ⟨i, hi, h1, h2, q, rfl, hq, -⟩
  · have HBF := Lib.hid (bestF_none hno)
    clear hno HLf
    cases o
    · by_cases hmk : mk ≤ k
      · have HE : Hid (bp = d) := Lib.hid (by rw [HBP.out]; exact backP_on hK H HO.out (by rw [HM.out]; exact hmk) (.inl HBF.out))
        go_wp2_with fail
        refine (HOV.out w2 (Below.refl _ _)).mono ?_
        rintro e w3 ⟨rfl, hb3⟩
        have hx3 := (hb3.block _ zl).trans HB2.out.2
        obtain ⟨v0, v1, v2, v3, v4, v5, v6, vl⟩ := st_cells hx3
        have HB3 : Hid (Below w.heap.size w w3) := HB2.out.1.trans (hb3.mono HB2.out.1.size)
        have HO3 := Lib.hid (HOV.out w3 hb3)
        have HQ3 := Lib.hid hb3
        clear z0 z1 z2 z3 z4 z5 z6 zl hx3 hb3 HOV
        go_wp2_with fail
        refine HO3.out.mono ?_
        rintro e w4 ⟨rfl, hb4⟩
        have HB4 : Hid (Below w.heap.size w w4) := HB3.out.trans (hb4.mono HB3.out.size)
        have HQ4 : Hid (Below w2.heap.size w2 w4) := HQ3.out.trans (hb4.mono HQ3.out.size)
        clear v0 v1 v2 v3 v4 v5 v6 vl hb4 HO3
        go_wp2_with fail
        refine bodyPost_end (results_none rfl _ _ _) rfl ?_
        refine ⟨rfl, ?_⟩
        rw [HE.out]
        exact ⟨u, ⟨t, V, v, l, HP.out.below HB4.out⟩, Fu.below HB4.out⟩
      · have HE : Hid (bp = { d with s := (X.path 0).2 }) := Lib.hid (by rw [HBP.out]; exact backP_new (by rw [HO.out]; simp) (.inr (by rw [HM.out]; exact hmk)) HBF.out)
        go_wp2_with fail
        refine (HOV.out w2 (Below.refl _ _)).mono ?_
        rintro e w3 ⟨rfl, hb3⟩
        have hx3 := (hb3.block _ zl).trans HB2.out.2
        obtain ⟨v0, v1, v2, v3, v4, v5, v6, vl⟩ := st_cells hx3
        have HB3 : Hid (Below w.heap.size w w3) := HB2.out.1.trans (hb3.mono HB2.out.1.size)
        have HO3 := Lib.hid (HOV.out w3 hb3)
        have HQ3 := Lib.hid hb3
        clear z0 z1 z2 z3 z4 z5 z6 zl hx3 hb3 HOV
        go_wp2_with fail
        refine HO3.out.mono ?_
        rintro e w4 ⟨rfl, hb4⟩
        have HB4 : Hid (Below w.heap.size w w4) := HB3.out.trans (hb4.mono HB3.out.size)
        have HQ4 : Hid (Below w2.heap.size w2 w4) := HQ3.out.trans (hb4.mono HQ3.out.size)
        clear v0 v1 v2 v3 v4 v5 v6 vl hb4 HO3
        obtain ⟨p0, p1, p2, p3, p4, p5, p6⟩ := HCf.out w4.drew HB4.out.drew
        go_wp2_with fail
        go_region_with (first
          | (go_at_call 13; refine (HNf.out _ HB4.out.drew).mono ?_; rintro e w5 ⟨M, t', rfl, hM, hb5, ht5⟩; obtain ⟨s0, s1, s2, s3, s4, s5, s6⟩ := HCf.out w5 (HB4.out.drew.trans (hb5.mono HB4.out.drew.size)); obtain ⟨u', g1, g2⟩ := (HP.out.below HB4.out.drew).other hb5 hM ht5; have HR := Lib.hid (And.intro g1 ((Fu.below (u := u) HB4.out.drew).trans g2)); clear hM hb5 ht5 g1 g2))
        all_goals
          simp only [Exit.inBlock]
          refine bodyPost_end (results_none rfl _ _ _) rfl ?_
          refine ⟨rfl, ?_⟩
          rw [HE.out]
          exact ⟨u', ⟨t', _, v, l, HR.out.1⟩, HR.out.2⟩
    · by_cases hmk : mk < k
      · have HE : Hid (bp = d) := Lib.hid (by rw [HBP.out]; exact backP_ends HO.out (by rw [HM.out]; exact hmk))
        go_wp2_with fail
        refine (HOV.out w2 (Below.refl _ _)).mono ?_
        rintro e w3 ⟨rfl, hb3⟩
        have hx3 := (hb3.block _ zl).trans HB2.out.2
        obtain ⟨v0, v1, v2, v3, v4, v5, v6, vl⟩ := st_cells hx3
        have HB3 : Hid (Below w.heap.size w w3) := HB2.out.1.trans (hb3.mono HB2.out.1.size)
        have HO3 := Lib.hid (HOV.out w3 hb3)
        have HQ3 := Lib.hid hb3
        clear z0 z1 z2 z3 z4 z5 z6 zl hx3 hb3 HOV
        go_wp2_with fail
        refine bodyPost_end (results_none rfl _ _ _) rfl ?_
        refine ⟨rfl, ?_⟩
        rw [HE.out]
        exact ⟨u, ⟨t, V, v, l, HP.out.below HB3.out⟩, Fu.below HB3.out⟩
      · have HE : Hid (bp = { d with s := (X.path 0).2 }) := Lib.hid (by rw [HBP.out]; exact backP_new (by rw [HM.out]; exact fun h => hmk h.2) (.inl HO.out) HBF.out)
        go_wp2_with fail
        refine (HOV.out w2 (Below.refl _ _)).mono ?_
        rintro e w3 ⟨rfl, hb3⟩
        have hx3 := (hb3.block _ zl).trans HB2.out.2
        obtain ⟨v0, v1, v2, v3, v4, v5, v6, vl⟩ := st_cells hx3
        have HB3 : Hid (Below w.heap.size w w3) := HB2.out.1.trans (hb3.mono HB2.out.1.size)
        have HO3 := Lib.hid (HOV.out w3 hb3)
        have HQ3 := Lib.hid hb3
        clear z0 z1 z2 z3 z4 z5 z6 zl hx3 hb3 HOV
        go_wp2_with fail
        refine HO3.out.mono ?_
        rintro e w4 ⟨rfl, hb4⟩
        have HB4 : Hid (Below w.heap.size w w4) := HB3.out.trans (hb4.mono HB3.out.size)
        have HQ4 : Hid (Below w2.heap.size w2 w4) := HQ3.out.trans (hb4.mono HQ3.out.size)
        clear v0 v1 v2 v3 v4 v5 v6 vl hb4 HO3
        obtain ⟨p0, p1, p2, p3, p4, p5, p6⟩ := HCf.out w4.drew HB4.out.drew
        go_wp2_with fail
        go_region_with (first
          | (go_at_call 13; refine (HNf.out _ HB4.out.drew).mono ?_; rintro e w5 ⟨M, t', rfl, hM, hb5, ht5⟩; obtain ⟨s0, s1, s2, s3, s4, s5, s6⟩ := HCf.out w5 (HB4.out.drew.trans (hb5.mono HB4.out.drew.size)); obtain ⟨u', g1, g2⟩ := (HP.out.below HB4.out.drew).other hb5 hM ht5; have HR := Lib.hid (And.intro g1 ((Fu.below (u := u) HB4.out.drew).trans g2)); clear hM hb5 ht5 g1 g2))
        all_goals
          simp only [Exit.inBlock]
          refine bodyPost_end (results_none rfl _ _ _) rfl ?_
          refine ⟨rfl, ?_⟩
          rw [HE.out]
          exact ⟨u', ⟨t', _, v, l, HR.out.1⟩, HR.out.2⟩
  · have HBF := Lib.hid (bestF_some hK.ks.ris hi h1 h2)
    obtain ⟨j, -, hj1, -, hj2⟩ := hK.ks.kept _ (List.getElem_mem hi)
    have HQR : Hid (∀ W, Below w2.heap.size w2 W → RdB W q (saveB (X.path j).2)) := Lib.hid fun W hb => by
      have := Rd.later (Rd.of_own hq) hb
      rw [hj2] at this
      exact this
    obtain ⟨x, hx⟩ : ∃ x, x = d.S[i].1 := ⟨_, rfl⟩
    rw [← hx]
    have hxj : d.S[i].1.toNat = j := by rw [hj1]; simp
    obtain ⟨qa, qc, rfl⟩ := (Rd.of_own hq).shape
    obtain ⟨ql, hql⟩ : ∃ ql, ql = d.S[i].2.length := ⟨_, rfl⟩
    rw [← hql] at HQR ⊢
    obtain ⟨b, hb⟩ : ∃ b, b = d.S[i] := ⟨_, rfl⟩
    rw [← hb] at HBF hxj hx
    have HXJ := Lib.hid (And.intro hxj hx)
    clear hq hj1 hj2 hx hxj hql hb hi h1 h2 HNf
    cases o
    · by_cases hmk : mk ≤ k
      · by_cases hxm : x ≤ mk
        · have HE : Hid (bp = d) := Lib.hid (by rw [HBP.out]; exact backP_on hK H HO.out (by rw [HM.out]; exact hmk) (.inr ⟨b, HBF.out, by rw [HM.out, ← HXJ.out.2]; exact hxm⟩))
          go_wp2_with fail
          refine (HOV.out w2 (Below.refl _ _)).mono ?_
          rintro e w3 ⟨rfl, hb3⟩
          have hx3 := (hb3.block _ zl).trans HB2.out.2
          obtain ⟨v0, v1, v2, v3, v4, v5, v6, vl⟩ := st_cells hx3
          have HB3 : Hid (Below w.heap.size w w3) := HB2.out.1.trans (hb3.mono HB2.out.1.size)
          have HO3 := Lib.hid (HOV.out w3 hb3)
          have HQ3 := Lib.hid hb3
          clear z0 z1 z2 z3 z4 z5 z6 zl hx3 hb3 HOV
          go_wp2_with fail
          refine HO3.out.mono ?_
          rintro e w4 ⟨rfl, hb4⟩
          have HB4 : Hid (Below w.heap.size w w4) := HB3.out.trans (hb4.mono HB3.out.size)
          have HQ4 : Hid (Below w2.heap.size w2 w4) := HQ3.out.trans (hb4.mono HQ3.out.size)
          clear v0 v1 v2 v3 v4 v5 v6 vl hb4 HO3
          go_wp2_with fail
          refine bodyPost_end (results_none rfl _ _ _) rfl ?_
          refine ⟨rfl, ?_⟩
          rw [HE.out]
          exact ⟨u, ⟨t, V, v, l, HP.out.below HB4.out⟩, Fu.below HB4.out⟩
        · have HE : Hid (bp = { d with s := (X.path j).2 }) := Lib.hid (by rw [HBP.out, ← HXJ.out.1]; exact backP_load (by rw [HO.out]; simp) (.inr (.inr (by rw [HM.out, ← HXJ.out.2]; exact hxm))) HBF.out)
          go_wp2_with fail
          refine (HOV.out w2 (Below.refl _ _)).mono ?_
          rintro e w3 ⟨rfl, hb3⟩
          have hx3 := (hb3.block _ zl).trans HB2.out.2
          obtain ⟨v0, v1, v2, v3, v4, v5, v6, vl⟩ := st_cells hx3
          have HB3 : Hid (Below w.heap.size w w3) := HB2.out.1.trans (hb3.mono HB2.out.1.size)
          have HO3 := Lib.hid (HOV.out w3 hb3)
          have HQ3 := Lib.hid hb3
          clear z0 z1 z2 z3 z4 z5 z6 zl hx3 hb3 HOV
          go_wp2_with fail
          refine HO3.out.mono ?_
          rintro e w4 ⟨rfl, hb4⟩
          have HB4 : Hid (Below w.heap.size w w4) := HB3.out.trans (hb4.mono HB3.out.size)
          have HQ4 : Hid (Below w2.heap.size w2 w4) := HQ3.out.trans (hb4.mono HQ3.out.size)
          clear v0 v1 v2 v3 v4 v5 v6 vl hb4 HO3
          obtain ⟨p0, p1, p2, p3, p4, p5, p6⟩ := HCf.out w4.drew HB4.out.drew
          go_wp2_with fail
          go_region_with (first
            | (go_at_call 52; refine (HLf.out _ HB4.out.drew _ j (HQR.out _ HQ4.out.drew)).mono ?_; rintro e w5 ⟨M, t', rfl, hM, hb5, ht5⟩; obtain ⟨s0, s1, s2, s3, s4, s5, s6⟩ := HCf.out w5 (HB4.out.drew.trans (hb5.mono HB4.out.drew.size)); obtain ⟨u', g1, g2⟩ := (HP.out.below HB4.out.drew).other hb5 hM ht5; have HR := Lib.hid (And.intro g1 ((Fu.below (u := u) HB4.out.drew).trans g2)); clear hM hb5 ht5 g1 g2))
          all_goals
            simp only [Exit.inBlock]
            refine bodyPost_end (results_none rfl _ _ _) rfl ?_
            refine ⟨rfl, ?_⟩
            rw [HE.out]
            exact ⟨u', ⟨t', _, v, l, HR.out.1⟩, HR.out.2⟩
      · have HE : Hid (bp = { d with s := (X.path j).2 }) := Lib.hid (by rw [HBP.out, ← HXJ.out.1]; exact backP_load (by rw [HO.out]; simp) (.inr (.inl (by rw [HM.out]; exact hmk))) HBF.out)
        go_wp2_with fail
        refine (HOV.out w2 (Below.refl _ _)).mono ?_
        rintro e w3 ⟨rfl, hb3⟩
        have hx3 := (hb3.block _ zl).trans HB2.out.2
        obtain ⟨v0, v1, v2, v3, v4, v5, v6, vl⟩ := st_cells hx3
        have HB3 : Hid (Below w.heap.size w w3) := HB2.out.1.trans (hb3.mono HB2.out.1.size)
        have HO3 := Lib.hid (HOV.out w3 hb3)
        have HQ3 := Lib.hid hb3
        clear z0 z1 z2 z3 z4 z5 z6 zl hx3 hb3 HOV
        go_wp2_with fail
        refine HO3.out.mono ?_
        rintro e w4 ⟨rfl, hb4⟩
        have HB4 : Hid (Below w.heap.size w w4) := HB3.out.trans (hb4.mono HB3.out.size)
        have HQ4 : Hid (Below w2.heap.size w2 w4) := HQ3.out.trans (hb4.mono HQ3.out.size)
        clear v0 v1 v2 v3 v4 v5 v6 vl hb4 HO3
        obtain ⟨p0, p1, p2, p3, p4, p5, p6⟩ := HCf.out w4.drew HB4.out.drew
        go_wp2_with fail
        go_region_with (first
          | (go_at_call 52; refine (HLf.out _ HB4.out.drew _ j (HQR.out _ HQ4.out.drew)).mono ?_; rintro e w5 ⟨M, t', rfl, hM, hb5, ht5⟩; obtain ⟨s0, s1, s2, s3, s4, s5, s6⟩ := HCf.out w5 (HB4.out.drew.trans (hb5.mono HB4.out.drew.size)); obtain ⟨u', g1, g2⟩ := (HP.out.below HB4.out.drew).other hb5 hM ht5; have HR := Lib.hid (And.intro g1 ((Fu.below (u := u) HB4.out.drew).trans g2)); clear hM hb5 ht5 g1 g2))
        all_goals
          simp only [Exit.inBlock]
          refine bodyPost_end (results_none rfl _ _ _) rfl ?_
          refine ⟨rfl, ?_⟩
          rw [HE.out]
          exact ⟨u', ⟨t', _, v, l, HR.out.1⟩, HR.out.2⟩
    · by_cases hmk : mk < k
      · have HE : Hid (bp = d) := Lib.hid (by rw [HBP.out]; exact backP_ends HO.out (by rw [HM.out]; exact hmk))
        go_wp2_with fail
        refine (HOV.out w2 (Below.refl _ _)).mono ?_
        rintro e w3 ⟨rfl, hb3⟩
        have hx3 := (hb3.block _ zl).trans HB2.out.2
        obtain ⟨v0, v1, v2, v3, v4, v5, v6, vl⟩ := st_cells hx3
        have HB3 : Hid (Below w.heap.size w w3) := HB2.out.1.trans (hb3.mono HB2.out.1.size)
        have HO3 := Lib.hid (HOV.out w3 hb3)
        have HQ3 := Lib.hid hb3
        clear z0 z1 z2 z3 z4 z5 z6 zl hx3 hb3 HOV
        go_wp2_with fail
        refine bodyPost_end (results_none rfl _ _ _) rfl ?_
        refine ⟨rfl, ?_⟩
        rw [HE.out]
        exact ⟨u, ⟨t, V, v, l, HP.out.below HB3.out⟩, Fu.below HB3.out⟩
      · have HE : Hid (bp = { d with s := (X.path j).2 }) := Lib.hid (by rw [HBP.out, ← HXJ.out.1]; exact backP_load (by rw [HM.out]; exact fun h => hmk h.2) (.inl HO.out) HBF.out)
        go_wp2_with fail
        refine (HOV.out w2 (Below.refl _ _)).mono ?_
        rintro e w3 ⟨rfl, hb3⟩
        have hx3 := (hb3.block _ zl).trans HB2.out.2
        obtain ⟨v0, v1, v2, v3, v4, v5, v6, vl⟩ := st_cells hx3
        have HB3 : Hid (Below w.heap.size w w3) := HB2.out.1.trans (hb3.mono HB2.out.1.size)
        have HO3 := Lib.hid (HOV.out w3 hb3)
        have HQ3 := Lib.hid hb3
        clear z0 z1 z2 z3 z4 z5 z6 zl hx3 hb3 HOV
        go_wp2_with fail
        refine HO3.out.mono ?_
        rintro e w4 ⟨rfl, hb4⟩
        have HB4 : Hid (Below w.heap.size w w4) := HB3.out.trans (hb4.mono HB3.out.size)
        have HQ4 : Hid (Below w2.heap.size w2 w4) := HQ3.out.trans (hb4.mono HQ3.out.size)
        clear v0 v1 v2 v3 v4 v5 v6 vl hb4 HO3
        obtain ⟨p0, p1, p2, p3, p4, p5, p6⟩ := HCf.out w4.drew HB4.out.drew
        go_wp2_with fail
        go_region_with (first
          | (go_at_call 52; refine (HLf.out _ HB4.out.drew _ j (HQR.out _ HQ4.out.drew)).mono ?_; rintro e w5 ⟨M, t', rfl, hM, hb5, ht5⟩; obtain ⟨s0, s1, s2, s3, s4, s5, s6⟩ := HCf.out w5 (HB4.out.drew.trans (hb5.mono HB4.out.drew.size)); obtain ⟨u', g1, g2⟩ := (HP.out.below HB4.out.drew).other hb5 hM ht5; have HR := Lib.hid (And.intro g1 ((Fu.below (u := u) HB4.out.drew).trans g2)); clear hM hb5 ht5 g1 g2))
        all_goals
          simp only [Exit.inBlock]
          refine bodyPost_end (results_none rfl _ _ _) rfl ?_
          refine ⟨rfl, ?_⟩
          rw [HE.out]
          exact ⟨u', ⟨t', _, v, l, HR.out.1⟩, HR.out.2⟩
end Go.Proofs.Ytgjmdcbdkdmceaa.Mach
