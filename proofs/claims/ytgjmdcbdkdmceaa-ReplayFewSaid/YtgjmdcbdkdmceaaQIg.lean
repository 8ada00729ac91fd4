/- The machine's tape, written: all that a machine is. -/
import Derived.Test.YtgjmdcbdkdmceaaQ20
namespace Go.Proofs.Ytgjmdcbdkdmceaa.Mach
open Go.RowKit

theorem flat8 (l : List Int) : (l.flatMap fun x => bytesL x 8).length = 8 * l.length := by
  induction l with
  | nil => rfl
  | cons a r ih => rw [List.flatMap_cons, List.length_append, ih, bytesL_length, List.length_cons]; omega
theorem listB_length (l : List Int) : (listB l).length = 8 + 8 * l.length := by rw [listB, List.length_append, bytesL_length, flat8]
/-- A call's bytes; a machine's. -/
def frB (f : Fr) : List Int := bytesL f.fn 8 ++ bytesL f.next 8 ++ bytesL f.dst 8 ++ (f.regs.flatMap fun x => bytesL x 8) ++ listB f.slots ++ listB f.args ++ listB f.ready
def headB (s : St) : List Int := bytesL s.steps 8 ++ bytesL s.end_ 8 ++ bytesL s.exit 8 ++ listB s.outs ++ bytesL s.read 8 ++ bytesL s.marks 8 ++ bytesL s.at_ 8 ++ listB s.heap ++ bytesL s.opn.length 8
def saveB (s : St) : List Int := headB s ++ s.opn.flatMap frB
theorem frB_length {E : Env} {f : Fr} (h : FrOk E f) : (frB f).length ≤ 480272 := by
  have h1 := h.sn
  have h2 := h.an
  have h3 := h.yn
  have h4 := h.rl
  have h5 : slotsN (E.ent f.fn).2 ≤ 60000 := by
    unfold slotsN
    split
    · rename_i h; simp [slotsOk] at h; omega
    · omega
  simp only [frB, List.length_append, bytesL_length, flat8, listB_length]
  omega
theorem storew_any (M o : Nat) (n x : Int) (w : World) (hc : w.cell? ⟨M, o, none⟩ = some (.int .i64 n)) (hz : w.frozen? ⟨M, o, none⟩ = false) :
    Calls Try.prog 65 #[.pointer (some ⟨M, o, none⟩), .int .i64 x] w fun e w' => e = .returned (.tuple #[]) ∧ w' = w.setCell ⟨M, o, none⟩ (.int .i64 x) := by
  have hst := run_call_store (P := Try.prog) Try.func85 (by kernel_rfl) (by kernel_rfl) (by kernel_rfl) (by kernel_rfl) (k := .i64) (y := x) hc hz
  go_enter Try.func65, Try.ntmps65
  go_wp2_with fail
  refine bodyPost_end (results_none rfl _ _ _) rfl ⟨rfl, rfl⟩
/-- The tape with its bytes, and all else as it was. -/
structure TK (w0 w : World) (base B : Nat) (bs : List Int) (wr : World) : Prop where
  tap : TapW w0 base B bs wr
  kp : Kp B w wr
  orig : ∃ c, w.heap[B]? = some (.cells c 96 (0, 0))
theorem TK.later {w0 w wr w' : World} {base B : Nat} {bs : List Int} (h : TK w0 w base B bs wr) (hb : Below wr.heap.size wr w') : TK w0 w base B bs w' := ⟨h.tap.later hb, h.kp.trans (Kp.below hb), h.orig⟩
theorem TK.step {w0 w wr w' : World} {base B : Nat} {bs bs' : List Int} (h : TK w0 w base B bs wr) (h2 : TapW w0 base B bs' w' ∧ Kp B wr w') : TK w0 w base B bs' w' := ⟨h2.1, h.kp.trans h2.2, h.orig⟩
theorem TK.ltB {w0 w wr : World} {base B : Nat} {bs : List Int} (h : TK w0 w base B bs wr) : B < wr.heap.size := by obtain ⟨pv, hp, -⟩ := h.tap.ht; exact (Array.getElem?_eq_some_iff.1 hp).1
theorem TK.at1 {w0 w wr : World} {base B : Nat} {bs : List Int} (h : TK w0 w base B bs wr) : wr.cell? ⟨B, 1, none⟩ = some (.bool false) := by obtain ⟨pv, hp, -⟩ := h.tap.ht; simp [World.cell?, hp]
theorem TK.blk {w0 w wr : World} {base B k : Nat} {bs : List Int} {c : Array Value} {T : TypeId} (h : TK w0 w base B bs wr) (hc : w.heap[k]? = some (.cells c T (0, 0))) (hT : T ≠ 5) (hne : T ≠ 96) : k ≠ B ∧ wr.heap[k]? = some (.cells c T (0, 0)) := by
  obtain ⟨cb, hb⟩ := h.orig
  have hk : k ≠ B := blk_ne hc hb (cells_ne hne)
  exact ⟨hk, h.kp.at hc hT hk⟩
theorem TK.row {w0 w wr : World} {base B lb n : Nat} {bs : List Int} {v : Value} {xs : List Value} {T : TypeId} (h : TK w0 w base B bs wr) (hr : w.ownsRow lb T 1 v n xs) (hT : T ≠ 5) (hne : T ≠ 96) : wr.ownsRow lb T 1 v n xs := osame hr fun k hk => by
  obtain ⟨_, cur, hc⟩ := oblk hr k hk
  exact (h.blk hc hT hne).2.trans hc.symm
set_option maxRecDepth 100000 in
set_option maxHeartbeats 4000000 in
theorem tall_w (w0 w : World) (base B : Nat) (h : TapW w0 base B [] w) (t : Nat → Nat) (mb M : Nat) (E : Env) (V : MV) (cl : List (Fr × FV)) (s : St) (hm : MRep w t mb M E V cl s) (L : Nat) (hs : Sane E L s) (hL : L ≤ 1000000) (hE : EnvOk E) :
    Calls Try.prog 44 #[.pointer (some ⟨B, 0, none⟩), .pointer (some ⟨M, 0, none⟩)] w fun e w' => e = .returned (.tuple #[]) ∧ TapW w0 base B (saveB s) w' ∧ Kp B w w' := by
  obtain ⟨pv0, hp0, -⟩ := h.ht
  have m7 : w.cell? ⟨M, 7, none⟩ = some (.int .i64 s.steps) := (hm.cellM 7).trans (mC_get V s).2.2.2.2.2.1
  have hlM := hm.ltM
  have hxl := hs.xl
  have hhl := hs.hl
  have hnl := hs.n
  have hil : E.inp.length ≤ 9223372036854775807 := hE.il
  have hel := hE.el
  have HK0 : Hid (TK w0 w base B [] w) := ⟨h, Kp.refl B w, _, hp0⟩
  have HM := Lib.hid hm
  have HS := Lib.hid hs
  clear h hm hs hp0
  go_enter Try.func44, Try.ntmps44
  go_wp2_with fail
  refine (load_any M 7 s.steps w m7).mono ?_
  rintro e w' ⟨rfl, hw⟩
  have hw := hw.symm
  subst hw
  go_wp2_with fail
  obtain ⟨w1, hw1⟩ : ∃ w1, w1 = w.alloc (.cells #[.int .i64 s.steps] 2) := ⟨_, rfl⟩
  rw [← hw1]
  have hb1 : Below w.heap.size w w1 := by rw [hw1]; exact (Below.refl _ _).alloc (Nat.le_refl _) _
  have hc1 : w1.heap[w.heap.size]? = some (.cells #[.int .i64 s.steps] 2 (0, 0)) := by rw [hw1]; exact heap_alloc_new _ _
  have HK1 := Lib.hid (HK0.out.later hb1)
  have hBw := HK0.out.ltB
  have HC1 := Lib.hid hc1
  clear hw1 hb1 hc1 HK0
  refine (tnum_w w0 w1 base B [] HK1.out.tap (by simp) w.heap.size 0 _ _ _ HC1.out (by decide) (by omega) s.steps rfl HS.out.st).mono ?_
  rintro e w2 ⟨rfl, hT2⟩
  have hc2 := hT2.2.at HC1.out (by decide) (by omega)
  have k2 : w2.cell? ⟨w.heap.size, 0, none⟩ = some (.int .i64 s.steps) := by simp [World.cell?, hc2]
  have HK2 := Lib.hid (HK1.out.step hT2)
  have hM2 := (HK2.out.blk HM.out.hm (by decide) (by decide)).2
  have n7 : w2.cell? ⟨M, 7, none⟩ = some (.int .i64 s.steps) := by simp only [World.cell?, hM2]; exact (mC_get V s).2.2.2.2.2.1
  have z7 : w2.frozen? ⟨M, 7, none⟩ = false := by simp [World.frozen?, hM2]
  have n7d : w2.drew.cell? ⟨M, 7, none⟩ = some (.int .i64 s.steps) := n7
  have HST := Lib.hid (storew_any M 7 s.steps s.steps w2.drew n7d z7)
  rw [setCell_id n7d] at HST
  have mixed : Try.prog.follows Departure.mixedOrders = true := by kernel_rfl
  clear HK1 HC1 hT2 hc2 hM2 n7 z7 m7 n7d
  go_wp2_with fail
  go_still_tail 4, mixed
  go_wp2_with fail
  change Calls _ _ _ (w2.drew) _
  refine HST.out.mono ?_
  rintro e w3 ⟨rfl, hw3⟩
  have HK : Hid (TK w0 w base B ([] ++ bytesL s.steps 8) w3) := by rw [hw3]; exact HK2.out.later ((Below.refl _ _).drew)
  clear HST hw3 HK2 k2
  go_wp2_with fail
  have hM8 := HK.out.blk HM.out.hm (by decide) (by decide)
  refine (tshort_w w0 _ base B _ HK.out.tap (by simp only [List.length_append, List.length_nil, bytesL_length]; omega) M 8 _ _ hM8.2 (by decide) hM8.1 s.end_ (mC_get V s).2.2.2.2.2.2.1 (by have := HS.out.en; omega)).mono ?_
  rintro e w28 ⟨rfl, hT28⟩
  have HK' := Lib.hid (HK.out.step hT28)
  clear HK hT28 hM8
  obtain ⟨HK, -⟩ : ∃ _ : Hid (TK w0 w base B _ w28), True := ⟨HK', trivial⟩
  clear HK'
  go_wp2_with fail
  have hM9 := HK.out.blk HM.out.hm (by decide) (by decide)
  refine (tnum_w w0 _ base B _ HK.out.tap (by simp only [List.length_append, List.length_nil, bytesL_length]; omega) M 9 _ _ _ hM9.2 (by decide) hM9.1 s.exit (mC_get V s).2.2.2.2.2.2.2.1 (HS.out.ex)).mono ?_
  rintro e w29 ⟨rfl, hT29⟩
  have HK' := Lib.hid (HK.out.step hT29)
  clear HK hT29 hM9
  obtain ⟨HK, -⟩ : ∃ _ : Hid (TK w0 w base B _ w29), True := ⟨HK', trivial⟩
  clear HK'
  go_wp2_with fail
  have hM10 := HK.out.blk HM.out.hm (by decide) (by decide)
  refine (tlist_w w0 _ base B _ HK.out.tap s.outs (by simp only [List.length_append, List.length_nil, bytesL_length]; omega) M 10 _ _ hM10.2 (by decide) hM10.1 V.xv (mC_get V s).2.2.2.2.2.2.2.2.1 _ (HK.out.row HM.out.hx.own (by decide) (by decide)) HS.out.xs).mono ?_
  rintro e w30 ⟨rfl, hT30⟩
  have HK' := Lib.hid (HK.out.step hT30)
  clear HK hT30 hM10
  obtain ⟨HK, -⟩ : ∃ _ : Hid (TK w0 w base B _ w30), True := ⟨HK', trivial⟩
  clear HK'
  go_wp2_with fail
  have hM11 := HK.out.blk HM.out.hm (by decide) (by decide)
  refine (tplain_w w0 _ base B _ HK.out.tap (by simp only [List.length_append, List.length_nil, bytesL_length, listB_length]; omega) M 11 _ _ hM11.2 (by decide) hM11.1 s.read (mC_get V s).2.2.2.2.2.2.2.2.2.1 ((by have := HS.out.rd; have := hil; exact ⟨by omega, by omega⟩))).mono ?_
  rintro e w31 ⟨rfl, hT31⟩
  have HK' := Lib.hid (HK.out.step hT31)
  clear HK hT31 hM11
  obtain ⟨HK, -⟩ : ∃ _ : Hid (TK w0 w base B _ w31), True := ⟨HK', trivial⟩
  clear HK'
  go_wp2_with fail
  have hM13 := HK.out.blk HM.out.hm (by decide) (by decide)
  refine (tplain_w w0 _ base B _ HK.out.tap (by simp only [List.length_append, List.length_nil, bytesL_length, listB_length]; omega) M 13 _ _ hM13.2 (by decide) hM13.1 s.marks (mC_get V s).2.2.2.2.2.2.2.2.2.2.1 (HS.out.ms)).mono ?_
  rintro e w33 ⟨rfl, hT33⟩
  have HK' := Lib.hid (HK.out.step hT33)
  clear HK hT33 hM13
  obtain ⟨HK, -⟩ : ∃ _ : Hid (TK w0 w base B _ w33), True := ⟨HK', trivial⟩
  clear HK'
  go_wp2_with fail
  have hM14 := HK.out.blk HM.out.hm (by decide) (by decide)
  refine (tplain_w w0 _ base B _ HK.out.tap (by simp only [List.length_append, List.length_nil, bytesL_length, listB_length]; omega) M 14 _ _ hM14.2 (by decide) hM14.1 s.at_ (mC_get V s).2.2.2.2.2.2.2.2.2.2.2.1 (HS.out.at_)).mono ?_
  rintro e w34 ⟨rfl, hT34⟩
  have HK' := Lib.hid (HK.out.step hT34)
  clear HK hT34 hM14
  obtain ⟨HK, -⟩ : ∃ _ : Hid (TK w0 w base B _ w34), True := ⟨HK', trivial⟩
  clear HK'
  go_wp2_with fail
  have hM6 := HK.out.blk HM.out.hm (by decide) (by decide)
  refine (tlist_w w0 _ base B _ HK.out.tap s.heap (by simp only [List.length_append, List.length_nil, bytesL_length, listB_length]; omega) M 6 _ _ hM6.2 (by decide) hM6.1 V.hv (mC_get V s).2.2.2.2.1 _ (HK.out.row HM.out.hh.own (by decide) (by decide)) HS.out.hp).mono ?_
  rintro e w26 ⟨rfl, hT26⟩
  have HK' := Lib.hid (HK.out.step hT26)
  clear HK hT26 hM6
  obtain ⟨HK, -⟩ : ∃ _ : Hid (TK w0 w base B _ w26), True := ⟨HK', trivial⟩
  clear HK'
  obtain ⟨oa, oc, hov, -, -⟩ := oshape HM.out.ho.own
  have hM5 := (HK.out.blk HM.out.hm (by decide) (by decide)).2
  have m5 : w26.cell? ⟨M, 5, none⟩ = some (.slice oa cl.length oc) := by simp only [World.cell?, hM5]; exact (mC_get V s).2.2.2.1.trans (by rw [hov])
  clear hM5
  go_wp2_with fail
  obtain ⟨w1, hw1⟩ : ∃ w1, w1 = w26.alloc (.cells #[.int .i64 cl.length] 3) := ⟨_, rfl⟩
  rw [← hw1]
  have hb1 : Below w26.heap.size w26 w1 := by rw [hw1]; exact (Below.refl _ _).alloc (Nat.le_refl _) _
  have hc1 : w1.heap[w26.heap.size]? = some (.cells #[.int .i64 cl.length] 3 (0, 0)) := by rw [hw1]; exact heap_alloc_new _ _
  have HK1 := Lib.hid (HK.out.later hb1)
  have hBw' := HK.out.ltB
  have HC1 := Lib.hid hc1
  have hcl : cl.length ≤ 100 := by have h9 := hnl; rw [HM.out.opn] at h9; simpa using h9
  clear hw1 hb1 hc1 HK m5
  refine (tplain_w w0 w1 base B _ HK1.out.tap (by simp only [List.length_append, List.length_nil, bytesL_length, listB_length]; omega) w26.heap.size 0 _ _ HC1.out (by decide) (by omega) cl.length rfl (i64_nat (by omega))).mono ?_
  rintro e w31 ⟨rfl, hT31⟩
  have hc2 := hT31.2.at HC1.out (by decide) (by omega)
  have k2 : w31.cell? ⟨w26.heap.size, 0, none⟩ = some (.int .i64 cl.length) := by simp [World.cell?, hc2]
  have HK := Lib.hid (HK1.out.step hT31)
  have b1 := HK.out.at1
  have hM5 := (HK.out.blk HM.out.hm (by decide) (by decide)).2
  have m5 : w31.cell? ⟨M, 5, none⟩ = some (.slice oa cl.length oc) := by simp only [World.cell?, hM5]; exact (mC_get V s).2.2.2.1.trans (by rw [hov])
  clear hM5 HK1 HC1 hT31 hc2
  go_wp2_with fail
  have HB0 : Hid (TK w0 w base B (headB s ++ (s.opn.take 0).flatMap frB) w31) := by
    have h9 := HK.out
    have e9 : headB s ++ (s.opn.take 0).flatMap frB = _ := List.append_nil _
    rw [e9]
    have e8 : s.opn.length = cl.length := by rw [HM.out.opn]; simp
    unfold headB
    rw [e8]
    exact h9
  have hHL : (headB s).length ≤ 8100000 := by
    have e8 : s.opn.length = cl.length := by rw [HM.out.opn]; simp
    simp only [headB, List.length_append, bytesL_length, listB_length]; omega
  clear HK b1 m5 k2
  go_loopw [104] (fun i wr => ∃ j : Nat, j ≤ cl.length ∧ i = .int .i64 j ∧ Hid (TK w0 w base B (headB s ++ (s.opn.take j).flatMap frB) wr)) (fun i _ => cl.length - (intOf i).toNat)
  case atStart => exact ⟨0, by omega, rfl, HB0⟩
  case round =>
    obtain ⟨wa, rfl⟩ : ∃ wa : World, wa = wr := ⟨_, rfl⟩
    obtain ⟨j, hj, rfl, HK⟩ := hrel
    clear HB0
    by_cases hjl : j < cl.length
    · obtain ⟨p, hp⟩ : ∃ p, cl[j]? = some p := ⟨_, List.getElem?_eq_getElem hjl⟩
      obtain ⟨f, cv⟩ := p
      have hopj : s.opn[j]? = some f := by rw [HM.out.opn, List.getElem?_map, hp]; rfl
      have hfr := HM.out.fr j _ hp
      have hf : FrOk E f := HS.out.fr f (List.mem_of_getElem? hopj)
      obtain ⟨F, hF⟩ : ∃ F, F = cv.blk := ⟨_, rfl⟩
      have HPR := Lib.hid hfr
      have HFB : Hid (w.heap[F]? = some (.cells (fC f cv) 111 (0, 0))) := by show w.heap[F]? = _; rw [hF]; exact hfr.fb
      obtain ⟨ob, obc, hv, hlob, -, ⟨cur, hcur⟩, hat⟩ := osplit HM.out.ho.own (by omega)
      rw [hov] at hv
      simp only [Value.slice.injEq, true_and] at hv
      obtain ⟨rfl, rfl⟩ := hv
      have hcj := hat j (.pointer (some ⟨F, 0, none⟩)) (by rw [hF]; simp [ptrC, hp])
      have hOa := (HK.out.blk hcur (by decide) (by decide)).2
      have kp : wa.cell? ⟨ob, j, none⟩ = some (.pointer (some ⟨F, 0, none⟩)) := by
        rw [World.cell?_of_block (w := w) (a := ⟨ob, j, none⟩) (by show wa.heap[ob]? = w.heap[ob]?; rw [hOa, hcur])]; exact hcj
      have hlen : (headB s ++ (s.opn.take j).flatMap frB).length ≤ 8100000 + 480272 * j := by
        have key : ∀ l : List Fr, (∀ g ∈ l, FrOk E g) → (l.flatMap frB).length ≤ 480272 * l.length := fun l => by
          induction l with
          | nil => intro _; simp
          | cons a r ih =>
            intro hh
            have h1 := frB_length (hh a (by simp))
            have h2 := ih (fun g hg => hh g (by simp [hg]))
            rw [List.flatMap_cons, List.length_append, List.length_cons]; omega
        have h1 := key (s.opn.take j) (fun g hg => HS.out.fr g (List.mem_of_mem_take hg))
        have h2 : (s.opn.take j).length ≤ j := by rw [List.length_take]; omega
        have h3 : 480272 * (s.opn.take j).length ≤ 480272 * j := Nat.mul_le_mul_left _ h2
        rw [List.length_append]; omega
      have hbound : 480272 * j ≤ 48027200 := by omega
      have hjl' : (j : Int) < cl.length := by omega
      have hsn : f.slots.length ≤ 60000 := by
        rw [hf.sn]; unfold slotsN; split
        · rename_i h; simp [slotsOk] at h; omega
        · omega
      have han := hf.an
      have hyn := hf.yn
      have HFO := Lib.hid hf
      have HOP := Lib.hid hopj
      obtain ⟨pre, hpre⟩ : ∃ pre, pre = headB s ++ (s.opn.take j).flatMap frB := ⟨_, rfl⟩
      rw [← hpre] at HK hlen
      have HPRE := Lib.hid hpre
      clear hp hopj hfr hf hcur hat hcj hOa hpre hF
      go_wp2_with fail
      have hF0 := HK.out.blk HFB.out (by decide) (by decide)
      refine (tplain_w w0 _ base B _ HK.out.tap (by first | omega | (simp only [List.length_append, bytesL_length, listB_length, flat8]; omega)) F 0 _ _ hF0.2 (by decide) hF0.1 _ (by rw [fC_at]; exact (fL_fn f cv).1) (by have := HFO.out.fn; exact ⟨by omega, by omega⟩)).mono ?_
      rintro e w40 ⟨rfl, hT40⟩
      have HK' := Lib.hid (HK.out.step hT40)
      clear HK hT40 hF0
      obtain ⟨HK, -⟩ : ∃ _ : Hid (TK w0 w base B _ w40), True := ⟨HK', trivial⟩
      clear HK'
      go_wp2_with fail
      have hF1 := HK.out.blk HFB.out (by decide) (by decide)
      refine (tplain_w w0 _ base B _ HK.out.tap (by first | omega | (simp only [List.length_append, bytesL_length]; omega)) F 1 _ _ hF1.2 (by decide) hF1.1 _ (by rw [fC_at]; exact (fL_fn f cv).2) HFO.out.nx).mono ?_
      rintro e w41 ⟨rfl, hT41⟩
      have HK' := Lib.hid (HK.out.step hT41)
      clear HK hT41 hF1
      obtain ⟨HK, -⟩ : ∃ _ : Hid (TK w0 w base B _ w41), True := ⟨HK', trivial⟩
      clear HK'
      go_wp2_with fail
      have hF21 := HK.out.blk HFB.out (by decide) (by decide)
      refine (tshort_w w0 _ base B _ HK.out.tap (by first | omega | (simp only [List.length_append, bytesL_length]; omega)) F 21 _ _ hF21.2 (by decide) hF21.1 _ (by rw [fC_at]; exact (fL_tail f cv HPR.out.rl).2.2.2) (by have := HFO.out.ds; omega)).mono ?_
      rintro e w42 ⟨rfl, hT42⟩
      have HK' := Lib.hid (HK.out.step hT42)
      clear HK hT42 hF21
      obtain ⟨HK, -⟩ : ∃ _ : Hid (TK w0 w base B _ w42), True := ⟨HK', trivial⟩
      clear HK'
      go_wp2_with fail
      obtain ⟨pr2, hpr2⟩ : ∃ pr2, pr2 = pre ++ bytesL f.fn 8 ++ bytesL f.next 8 ++ bytesL f.dst 8 := ⟨_, rfl⟩
      rw [← hpr2] at HK
      have hlen2 : pr2.length ≤ 8100024 + 480272 * j := by rw [hpr2]; simp only [List.length_append, bytesL_length]; omega
      have HPR2 := Lib.hid hpr2
      have HI0 : Hid (TK w0 w base B (pr2 ++ (f.regs.take 0).flatMap fun x => bytesL x 8) w42) := by
        have e9 : pr2 ++ ((f.regs.take 0).flatMap fun x => bytesL x 8) = pr2 := List.append_nil _
        rw [e9]; exact HK.out
      clear HK hpr2
      go_loopw [123] (fun i wr => ∃ q : Nat, q ≤ 16 ∧ i = .int .i64 q ∧ Hid (TK w0 w base B (pr2 ++ (f.regs.take q).flatMap fun x => bytesL x 8) wr)) (fun i _ => 16 - (intOf i).toNat)
      case atStart => exact ⟨0, by omega, rfl, HI0⟩
      case round =>
        obtain ⟨wi, rfl⟩ : ∃ wi : World, wi = wr := ⟨_, rfl⟩
        obtain ⟨q, hq, rfl, HK⟩ := hrel
        clear HI0
        by_cases hq16 : q < 16
        · have hq' : (q : Int) < 16 := by omega
          have hF2 := HK.out.blk HFB.out (by decide) (by decide)
          have hl5 : (pr2 ++ (f.regs.take q).flatMap fun x => bytesL x 8).length ≤ 2000000000 := by
            rw [List.length_append, flat8, List.length_take]; omega
          obtain ⟨y, hy⟩ : ∃ y, y = f.regs.getD q 0 := ⟨_, rfl⟩
          have hry : i64 y := by rw [hy]; exact HFO.out.rg.getD q
          have hcy : (fC f cv)[2 + q]? = some (.int .i64 y) := by rw [fC_at, fL_reg f cv HPR.out.rl q hq16, hy]
          have HY := Lib.hid hy
          have HCY := Lib.hid hcy
          have HF2 := Lib.hid hF2
          clear hy hcy hF2
          go_wp2_with fail
          refine (tnum_w w0 wi base B _ HK.out.tap hl5 F (2 + q) _ _ _ HF2.out.2 (by decide) HF2.out.1 y HCY.out hry).mono ?_
          rintro e w43 ⟨rfl, hT43⟩
          have HK3 := Lib.hid (HK.out.step hT43)
          clear hT43
          go_wp2_with fail
          have e1 : pr2 ++ ((f.regs.take q).flatMap fun x => bytesL x 8) ++ bytesL y 8 = pr2 ++ (f.regs.take (q + 1)).flatMap fun x => bytesL x 8 := by
            have hql : q < f.regs.length := by rw [HPR.out.rl]; exact hq16
            have e2 : f.regs.take (q + 1) = f.regs.take q ++ [y] := by
              rw [List.take_succ_eq_append_getElem hql, HY.out, List.getD_eq_getElem?_getD, List.getElem?_eq_getElem hql]; rfl
            rw [e2, List.flatMap_append]; simp
          refine ⟨⟨q + 1, by omega, by simp, ?_⟩, by simp [intOf]; omega⟩
          have h9 := HK3.out
          rw [e1] at h9
          exact h9
        · obtain rfl : q = 16 := by omega
          have e16 : f.regs.take 16 = f.regs := by have h9 := HPR.out.rl; rw [← h9]; exact List.take_length
          rw [e16] at HK
          have hrl : f.regs.length = 16 := HPR.out.rl
          have HRL := Lib.hid hrl
          have hl9 : (f.regs.flatMap fun x => bytesL x 8).length = 128 := by rw [flat8, hrl]
          obtain ⟨rb, hrb⟩ : ∃ rb, rb = (f.regs.flatMap fun x => bytesL x 8) := ⟨_, rfl⟩
          rw [← hrb] at HK hl9
          have HRB := Lib.hid hrb
          clear hrb hrl e16
          have mixq : (16 : Int) = 16 := rfl
          clear mixq
          go_wp2_with fail
          have hF18 := HK.out.blk HFB.out (by decide) (by decide)
          refine (tlist_w w0 _ base B _ HK.out.tap f.slots (by first | omega | (simp only [List.length_append]; omega)) F 18 _ _ hF18.2 (by decide) hF18.1 cv.sv (by rw [fC_at]; exact (fL_tail f cv HPR.out.rl).1) _ (HK.out.row HPR.out.sl.own (by decide) (by decide)) HFO.out.sl).mono ?_
          rintro e w44 ⟨rfl, hT44⟩
          have HK' := Lib.hid (HK.out.step hT44)
          clear HK hT44 hF18
          obtain ⟨HK, -⟩ : ∃ _ : Hid (TK w0 w base B _ w44), True := ⟨HK', trivial⟩
          clear HK'
          go_wp2_with fail
          have hF19 := HK.out.blk HFB.out (by decide) (by decide)
          refine (tlist_w w0 _ base B _ HK.out.tap f.args (by first | omega | (simp only [List.length_append, listB_length]; omega)) F 19 _ _ hF19.2 (by decide) hF19.1 cv.av (by rw [fC_at]; exact (fL_tail f cv HPR.out.rl).2.1) _ (HK.out.row HPR.out.ar.own (by decide) (by decide)) HFO.out.ar).mono ?_
          rintro e w45 ⟨rfl, hT45⟩
          have HK' := Lib.hid (HK.out.step hT45)
          clear HK hT45 hF19
          obtain ⟨HK, -⟩ : ∃ _ : Hid (TK w0 w base B _ w45), True := ⟨HK', trivial⟩
          clear HK'
          go_wp2_with fail
          have hF20 := HK.out.blk HFB.out (by decide) (by decide)
          refine (tlist_w w0 _ base B _ HK.out.tap f.ready (by first | omega | (simp only [List.length_append, listB_length]; omega)) F 20 _ _ hF20.2 (by decide) hF20.1 cv.yv (by rw [fC_at]; exact (fL_tail f cv HPR.out.rl).2.2.1) _ (HK.out.row HPR.out.rd.own (by decide) (by decide)) HFO.out.yr).mono ?_
          rintro e w46 ⟨rfl, hT46⟩
          have HK' := Lib.hid (HK.out.step hT46)
          clear HK hT46 hF20
          obtain ⟨HK, -⟩ : ∃ _ : Hid (TK w0 w base B _ w46), True := ⟨HK', trivial⟩
          clear HK'
          go_wp2_with fail
          have e1 : pr2 ++ rb ++ listB f.slots ++ listB f.args ++ listB f.ready = headB s ++ (s.opn.take (j + 1)).flatMap frB := by
            have hjo : j < s.opn.length := (List.getElem?_eq_some_iff.1 HOP.out).1
            have e2 : s.opn.take (j + 1) = s.opn.take j ++ [f] := by
              rw [List.take_succ_eq_append_getElem hjo, (List.getElem?_eq_some_iff.1 HOP.out).2]
            rw [e2, List.flatMap_append, HPR2.out, HPRE.out, HRB.out]
            simp [frB]
          refine ⟨⟨j + 1, by omega, by simp, ?_⟩, by simp [intOf]; omega⟩
          have h9 := HK.out
          rw [e1] at h9
          exact h9
    · obtain rfl : j = cl.length := by omega
      go_wp2_with fail
      refine bodyPost_end (results_none rfl _ _ _) rfl ⟨rfl, ?_, HK.out.kp⟩
      have h9 := HK.out.tap
      have e8 : s.opn.take cl.length = s.opn := by rw [HM.out.opn]; apply List.take_of_length_le; simp
      rw [e8] at h9
      exact h9
end Go.Proofs.Ytgjmdcbdkdmceaa.Mach
