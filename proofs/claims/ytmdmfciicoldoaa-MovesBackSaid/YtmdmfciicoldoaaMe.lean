/- How many circles there are, as the program counts them: what it computes, and the walk. -/
import Derived.Test.YtmdmfciicoldoaaMd
namespace Go.Proofs.Ytmdmfciicoldoaa
open Go.RowKit Go.Maps

/-- One way from a place, until it ends or meets a place that was seen. -/
def cInner (f : Int → Option Int) (i : Int) : Nat → (Int → Option Int) → Int → Int → (Int → Option Int) × Int
  | 0, g, n, _ => (g, n)
  | k + 1, g, n, a => match f a with
    | none => (g, n)
    | some nx => match g a with
      | some r => (g, if r = i then n + 1 else n)
      | none => cInner f i k (upd g a (some i)) n nx
theorem cInner_succ (f : Int → Option Int) (i : Int) (k : Nat) (g : Int → Option Int) (n a : Int) : cInner f i (k + 1) g n a = (match f a with
    | none => (g, n)
    | some nx => match g a with
      | some r => (g, if r = i then n + 1 else n)
      | none => cInner f i k (upd g a (some i)) n nx) := rfl
theorem cInner_end {f : Int → Option Int} {i n a : Int} {k : Nat} {g : Int → Option Int} (hf : f a = none) : cInner f i (k + 1) g n a = (g, n) := by rw [cInner_succ, hf]
theorem cInner_met {f : Int → Option Int} {i n a nx r : Int} {k : Nat} {g : Int → Option Int} (hf : f a = some nx) (hg : g a = some r) : cInner f i (k + 1) g n a = (g, if r = i then n + 1 else n) := by rw [cInner_succ, hf, hg]
theorem cInner_go {f : Int → Option Int} {i n a nx : Int} {k : Nat} {g : Int → Option Int} (hf : f a = some nx) (hg : g a = none) : cInner f i (k + 1) g n a = cInner f i k (upd g a (some i)) n nx := by rw [cInner_succ, hf, hg]
def cState (l : List M) : Nat → (Int → Option Int) × Int
  | 0 => (fun _ => none, 0)
  | j + 1 => match l[j]? with
    | none => cState l j
    | some m => cInner (srcL l) j (l.length + 1) (cState l j).1 (cState l j).2 m.1
/-- The program's count. -/
def circF (l : List M) : Int := (cState l l.length).2

/-- How many places among the targets were not seen. -/
def unseen (l : List M) (g : Int → Option Int) : Nat := l.countP fun m => (g m.1).isNone
theorem unseen_le (l : List M) (g : Int → Option Int) : unseen l g ≤ l.length := List.countP_le_length
theorem unseen_mono (l : List M) (g : Int → Option Int) (a v : Int) : unseen l (upd g a (some v)) ≤ unseen l g := by
  unfold unseen
  refine List.countP_mono_left fun m _ h => ?_
  by_cases hm : m.1 = a
  · rw [hm, upd_same] at h; cases h
  · rw [upd_other _ _ hm] at h; exact h
theorem unseen_upd {l : List M} {g : Int → Option Int} {a : Int} (hm : ∃ m ∈ l, m.1 = a) (hg : g a = none) (v : Int) : unseen l (upd g a (some v)) + 1 ≤ unseen l g := by
  induction l with
  | nil => obtain ⟨m, h, _⟩ := hm; cases h
  | cons x r ih =>
    have h0 := unseen_mono r g a v
    by_cases hx : x.1 = a
    · have h1 : ((upd g a (some v)) x.1).isNone = false := by rw [hx, upd_same]; rfl
      have h2 : (g x.1).isNone = true := by rw [hx, hg]; rfl
      unfold unseen at *
      rw [List.countP_cons, List.countP_cons, h1, h2]
      simp
      omega
    · obtain ⟨m, h, hma⟩ := hm
      have hr : ∃ m ∈ r, m.1 = a := by
        rcases List.mem_cons.1 h with rfl | h
        · exact absurd hma hx
        · exact ⟨m, h, hma⟩
      have e : (upd g a (some v)) x.1 = g x.1 := upd_other _ _ hx
      have := ih hr
      unfold unseen at *
      rw [List.countP_cons, List.countP_cons, e]
      omega
theorem srcL_mem {l : List M} {a b : Int} (h : srcL l a = some b) : (a, b) ∈ l ∧ a ≠ b := by
  unfold srcL at h
  rw [Option.map_eq_some_iff] at h
  obtain ⟨m, hm, rfl⟩ := h
  have h1 := List.find?_some hm
  have h2 := List.mem_of_find?_eq_some hm
  simp at h1
  obtain ⟨rfl, h3⟩ := h1
  exact ⟨h2, fun h => h3 h.symm⟩

theorem cInner_bd (f : Int → Option Int) (i : Int) : ∀ (k : Nat) (g : Int → Option Int) (n a : Int), n ≤ (cInner f i k g n a).2 ∧ (cInner f i k g n a).2 ≤ n + 1
  | 0, g, n, a => by simp [cInner]; omega
  | k + 1, g, n, a => by
    unfold cInner
    cases f a with
    | none => simp; omega
    | some nx =>
      cases g a with
      | some r => simp; split <;> omega
      | none => exact cInner_bd f i k _ n nx
theorem cState_bd (l : List M) : ∀ j, 0 ≤ (cState l j).2 ∧ (cState l j).2 ≤ j
  | 0 => by simp [cState]
  | j + 1 => by
    have h := cState_bd l j
    unfold cState
    cases l[j]? with
    | none => simp; omega
    | some m =>
      have := cInner_bd (srcL l) j (l.length + 1) (cState l j).1 (cState l j).2 m.1
      simp only
      omega

structure CLoop (l : List M) (w wr : World) (Bf Bg nb : Nat) (g : Int → Option Int) : Prop where
  bel : Below w.heap.size w wr
  frm : MapAt wr Bf l.length (srcL l)
  been : MapAt wr Bg nb g
  room : nb + unseen l g ≤ l.length
  lf : w.heap.size ≤ Bf
  lg : Bf < Bg
theorem CLoop.alloc {l : List M} {w wr : World} {Bf Bg nb : Nat} {g : Int → Option Int} (h : CLoop l w wr Bf Bg nb g) (o : Obj) : CLoop l w (wr.alloc o) Bf Bg nb g :=
  ⟨h.bel.alloc h.bel.size o, h.frm.alloc o, h.been.alloc o, h.room, h.lf, h.lg⟩
theorem CLoop.drewN {l : List M} {w wr : World} {Bf Bg nb : Nat} {g : Int → Option Int} (h : CLoop l w wr Bf Bg nb g) (n : Nat) : CLoop l w (wr.drewN n) Bf Bg nb g :=
  ⟨Go.below_drewN h.bel n, h.frm, h.been, h.room, h.lf, h.lg⟩
theorem CLoop.see {l : List M} {w wr w' : World} {Bf Bg nb : Nat} {g : Int → Option Int} {a i : Int} (h : CLoop l w wr Bf Bg nb g) (hs : MapAt w' Bg (nb + 1) (upd g a (some i))) (hg : wr.grownBy w' (some Bg)) (hm : ∃ m ∈ l, m.1 = a) (hn : g a = none) : CLoop l w w' Bf Bg (nb + 1) (upd g a (some i)) := by
  have h1 := unseen_upd hm hn i
  have h2 := h.room
  exact ⟨h.bel.grown hg h.bel.size (fun k hk => by cases hk; have := h.lf; have := h.lg; omega), h.frm.kept hg (by have := h.lg; simp; omega), hs, by omega, h.lf, h.lg⟩

set_option maxHeartbeats 4000000 in
theorem circles_any (v : Value) (l : List M) (w : World) (hv : RdM w v l) (hR : ∀ m ∈ l, inR m.1 ∧ inR m.2) (hD : Dist l) :
    Calls Try.prog 13 #[v] w fun e w' => e = .returned (.int .i64 (circF l)) ∧ Below w.heap.size w w' := by
  have hmm := @run_makeMap Try.prog
  rcases hv.split with ⟨a, c, rfl, rfl⟩ | ⟨b, off, c, rfl, hp, hlc, hc9, hb, hcell⟩
  · have HS := Lib.hid (fun w h => sources_any (.slice a 0 c) [] w h hR)
    have HV := Lib.hid hv
    clear hv hR
    go_enter Try.func13, Try.ntmps13
    go_wp2_with fail
    refine (HS.out _ HV.out).mono ?_
    rintro e w1 ⟨⟨_, B, rfl, hm, hB⟩ | ⟨hn, _⟩, hb1⟩
    · have HB1 := Lib.hid hb1
      clear hb1
      go_wp2_with fail
      refine wp_loop_rounds 1 ?_
      rw [rounds_succ]
      go_wp2_with fail
      go_ret
      exact ⟨rfl, HB1.out.alloc HB1.out.size _⟩
    · exact absurd hD hn
  · have HS := Lib.hid (fun w h => sources_any (.slice (some ⟨b, off, none⟩) l.length c) l w h hR)
    have HV := Lib.hid hv
    have HC := Lib.hid hcell
    have HR := Lib.hid hR
    have HD := Lib.hid hD
    have hl9 : l.length ≤ 9223372036854775807 := by omega
    clear hcell hv hR hD
    go_enter Try.func13, Try.ntmps13
    go_wp2_with fail
    refine (HS.out _ HV.out).mono ?_
    rintro e w1 ⟨⟨_, Bf, rfl, hm, hBf⟩ | ⟨hn, _⟩, hb1⟩
    · have HM := Lib.hid hm
      have HB1 := Lib.hid hb1
      have hBg := hm.lt
      clear hm hb1 HS HV
      go_wp2_with fail
      go_loopw [24, 5] (fun i s5 wr => ∃ j nb : Nat, j ≤ l.length ∧ i = .int .i64 j ∧ s5 = .int .i64 (cState l j).2 ∧ Hid (CLoop l w wr Bf w1.heap.size nb (cState l j).1)) (fun i _ _ => l.length - (intOf i).toNat)
      case atStart =>
        exact ⟨0, 0, by omega, rfl, rfl, HB1.out.alloc HB1.out.size _, HM.out.alloc _, MapAt.made w1, by have := unseen_le l (cState l 0).1; omega, hBf, hBg⟩
      case round =>
        obtain ⟨wo, rfl⟩ : ∃ wo : World, wo = wr := ⟨_, rfl⟩
        obtain ⟨j, nb, hj, rfl, rfl, HL⟩ := hrel
        have hbel := HL.out.bel
        have hbr : b < wo.heap.size := Nat.lt_of_lt_of_le hb hbel.size
        have hnd := cState_bd l j
        by_cases hlt : j < l.length
        · obtain ⟨d1, d2⟩ := HC.out j hlt
          rw [← hbel.cell (p := ⟨b, off + j * 2, none⟩) hb] at d1
          rw [← hbel.cell (p := ⟨b, off + j * 2 + 1, none⟩) hb] at d2
          obtain ⟨r1, r2⟩ := HR.out l[j] (List.getElem_mem hlt)
          have hst : cState l (j + 1) = cInner (srcL l) j (l.length + 1) (cState l j).1 (cState l j).2 l[j].1 := by
            show (match l[j]? with | none => _ | some m => _) = _
            rw [List.getElem?_eq_getElem hlt]
          have HST := Lib.hid hst
          obtain ⟨⟨x, y⟩, hx⟩ : ∃ x, l[j] = x := ⟨_, rfl⟩
          rw [hx] at d1 d2 r1 HST
          simp only at d1 d2 r1 HST
          have R1 := Lib.hid r1
          clear hx hbel r1 r2 hst
          obtain ⟨n, hn⟩ : ∃ n, (cState l j).2 = n := ⟨_, rfl⟩
          obtain ⟨g0, hg0⟩ : ∃ g, (cState l j).1 = g := ⟨_, rfl⟩
          rw [hn] at hnd HST ⊢
          rw [hg0] at HL HST
          clear hn hg0
          go_wp2_with fail
          go_loopg [9, 5] (l.length + 1) (fun k s9 s5 wr => ∃ (a : Int) (g : Int → Option Int) (nb : Nat), s9 = .int .i64 a ∧ s5 = .int .i64 n ∧ Hid (inR a) ∧ Hid (cState l (j + 1) = cInner (srcL l) j k g n a) ∧ Hid (unseen l g < k) ∧ Hid (CLoop l w wr Bf w1.heap.size nb g))
          case atStart => exact ⟨x, g0, nb, rfl, rfl, R1, HST, Nat.lt_succ_of_le (unseen_le _ _), HL.out.alloc _⟩
          case round =>
            obtain ⟨a, g, nb, rfl, rfl, HA, HK, HU, HL⟩ := hrel
            obtain ⟨k, rfl⟩ : ∃ k, gk = k + 1 := ⟨gk - 1, by have := HU.out; omega⟩
            have hroom := HL.out.room
            have hnb : nb < maxLen ∨ unseen l g = 0 := by unfold maxLen; omega
            cases hf : srcL l a with
            | none =>
              have HF := Lib.hid hf
              have HE : Hid (cState l (j + 1) = (g, n)) := by
                show _ = _
                rw [HK.out, cInner_end HF.out]
              clear hf
              go_wp2_with (first | (at_lookup; refine wp_look_ok _ rfl _ _ rfl Bf l.length _ rfl HL.out.frm a rfl HA.out 0 false (by rw [HF.out]; rfl) (by rw [HF.out]; rfl) ?_))
              refine ⟨⟨j + 1, nb, by omega, by go_num, by rw [HE.out], by rw [HE.out]; exact HL⟩, by simp [intOf]; omega⟩
            | some nx =>
              have HF := Lib.hid hf
              have HMem : Hid (∃ m ∈ l, m.1 = a) := ⟨_, (srcL_mem hf).1, rfl⟩
              have HNX : Hid (inR nx) := (HR.out _ (srcL_mem hf).1).2
              cases hg : g a with
              | some r =>
                have HG := Lib.hid hg
                by_cases hrj : r = (j : Int)
                · have HE : Hid (cState l (j + 1) = (g, n + 1)) := by
                    show _ = _
                    rw [HK.out, cInner_met HF.out HG.out, if_pos hrj]
                  have hrj' : (r == (j : Int)) = true := by simp [hrj]
                  clear hf hg hrj
                  go_wp2_with (first
                    | (at_lookup; refine wp_look_ok _ rfl _ _ rfl Bf l.length _ rfl HL.out.frm a rfl HA.out nx true (by rw [HF.out]; rfl) (by rw [HF.out]; rfl) ?_)
                    | (at_lookup; refine wp_look_ok _ rfl _ _ rfl w1.heap.size nb _ rfl HL.out.been a rfl HA.out r true (by rw [HG.out]; rfl) (by rw [HG.out]; rfl) ?_))
                  refine ⟨⟨j + 1, nb, by omega, by go_num, by rw [HE.out], by rw [HE.out]; exact HL⟩, by simp [intOf]; omega⟩
                · have HE : Hid (cState l (j + 1) = (g, n)) := by
                    show _ = _
                    rw [HK.out, cInner_met HF.out HG.out, if_neg hrj]
                  have hrj' : (r == (j : Int)) = false := by simp [hrj]
                  clear hf hg hrj
                  go_wp2_with (first
                    | (at_lookup; refine wp_look_ok _ rfl _ _ rfl Bf l.length _ rfl HL.out.frm a rfl HA.out nx true (by rw [HF.out]; rfl) (by rw [HF.out]; rfl) ?_)
                    | (at_lookup; refine wp_look_ok _ rfl _ _ rfl w1.heap.size nb _ rfl HL.out.been a rfl HA.out r true (by rw [HG.out]; rfl) (by rw [HG.out]; rfl) ?_))
                  refine ⟨⟨j + 1, nb, by omega, by go_num, by rw [HE.out], by rw [HE.out]; exact HL⟩, by simp [intOf]; omega⟩
              | none =>
                have HG := Lib.hid hg
                have HE : Hid (cState l (j + 1) = cInner (srcL l) j k (upd g a (some j)) n nx) := by
                  show _ = _
                  rw [HK.out, cInner_go HF.out HG.out]
                have hus := unseen_upd HMem.out hg j
                have hnb2 : nb < maxLen := by unfold maxLen; omega
                have HU2 : Hid (unseen l (upd g a (some j)) < k) := by have := HU.out; show _ < _; omega
                have hjr : inR (j : Int) := by omega
                have HJR := Lib.hid hjr
                clear hf hg hus hnb hjr
                go_wp2_with (first
                  | (at_lookup; refine wp_look_ok _ rfl _ _ rfl Bf l.length _ rfl HL.out.frm a rfl HA.out nx true (by rw [HF.out]; rfl) (by rw [HF.out]; rfl) ?_)
                  | (at_lookup; refine wp_look_ok _ rfl _ _ rfl w1.heap.size nb _ rfl HL.out.been a rfl HA.out 0 false (by rw [HG.out]; rfl) (by rw [HG.out]; rfl) ?_)
                  | (at_mapUpdate; refine wp_store _ rfl _ _ _ rfl w1.heap.size nb _ rfl HL.out.been hnb2 a j rfl rfl HA.out HJR.out ?_; intro w3 hm3 hg3; have HL3 := Lib.hid (HL.out.see hm3 hg3 HMem.out HG.out))
                  | (at_lookup; refine wp_look _ rfl _ _ rfl Bf l.length _ rfl HL3.out.frm a rfl HA.out nx (by rw [HF.out]; rfl) ?_))
                go_roundg k
                case measure => omega
                case rel => exact ⟨nx, _, nb + 1, rfl, rfl, HNX, HE, HU2, HL3⟩
        · obtain rfl : j = l.length := by omega
          have HE : Hid (circF l = (cState l l.length).2) := rfl
          obtain ⟨n, hn⟩ : ∃ n, (cState l l.length).2 = n := ⟨_, rfl⟩
          rw [hn] at HE hnd ⊢
          clear hbel hn
          go_wp2_with fail
          go_ret
          exact ⟨by rw [HE.out]; rfl, HL.out.bel⟩
    · exact absurd HD.out hn
end Go.Proofs.Ytmdmfciicoldoaa
