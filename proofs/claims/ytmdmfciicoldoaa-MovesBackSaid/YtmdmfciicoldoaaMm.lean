/- Walk: the places that nobody needs are served, one by one. -/
import Derived.Test.YtmdmfciicoldoaaMk
import Derived.Test.YtmdmfciicoldoaaMl
namespace Go.Proofs.Ytmdmfciicoldoaa
open Go.RowKit Go.Maps

section
variable {w w' : World} {base pf pm po pn bm bn nm nn : Nat} {vf vo : Value} {free : List Int} {fr nd : Int → Option Int} {out : List M}
theorem DM.cells (h : DM w base pf pm po pn bm bn vf free fr nd vo out nm nn) : w.cell? ⟨pf, 0, none⟩ = some vf ∧ w.frozen? ⟨pf, 0, none⟩ = false ∧ w.cell? ⟨pm, 0, none⟩ = some (.map (some bm)) ∧ w.cell? ⟨po, 0, none⟩ = some vo ∧ w.frozen? ⟨po, 0, none⟩ = false ∧ w.cell? ⟨pn, 0, none⟩ = some (.map (some bn)) :=
  ⟨cell_of_heap h.cf rfl, free_of_heap h.cf, cell_of_heap h.cm rfl, cell_of_heap h.co rfl, free_of_heap h.co, cell_of_heap h.cn rfl⟩
theorem DM.apart (h : DM w base pf pm po pn bm bn vf free fr nd vo out nm nn) : pf ≠ pm ∧ pf ≠ po ∧ pf ≠ pn ∧ po ≠ pm ∧ po ≠ pn :=
  ⟨blk_ne h.cf h.cm (cells_ne (by decide)), blk_ne h.cf h.co (cells_ne (by decide)), blk_ne h.cf h.cn (cells_ne (by decide)), blk_ne h.co h.cm (cells_ne (by decide)), blk_ne h.co h.cn (cells_ne (by decide))⟩
/-- The variables' cells, behind an append to the list (ahead of the store). -/
theorem DM.appO_cells (h : DM w base pf pm po pn bm bn vf free fr nd vo out nm nn) (hg : w.grownBy w' vo.ownBlock) : w'.cell? ⟨pf, 0, none⟩ = some vf ∧ w'.frozen? ⟨pf, 0, none⟩ = false ∧ w'.cell? ⟨pm, 0, none⟩ = some (.map (some bm)) ∧ w'.cell? ⟨pn, 0, none⟩ = some (.map (some bn)) := by
  have hk : ∀ {k : Nat} {o : Obj}, w.heap[k]? = some o → (∀ cur, o ≠ .cells cur 32 (0, 0)) → w'.heap[k]? = some o := fun {k o} hh ho => by
    rw [hg.block k (Array.getElem?_eq_some_iff.1 hh).1 (fun e => by
      obtain ⟨_, cur, hc⟩ := own_blk h.oo k e.symm
      rw [hh] at hc; cases hc; exact ho cur rfl)]; exact hh
  have e1 := hk h.cf (fun cur => cells_ne (by decide))
  have e2 := hk h.cm (fun cur => cells_ne (by decide))
  have e3 := hk h.cn (fun cur => cells_ne (by decide))
  exact ⟨cell_of_heap e1 rfl, free_of_heap e1, cell_of_heap e2 rfl, cell_of_heap e3 rfl⟩
end

set_option maxHeartbeats 8000000 in
set_option maxRecDepth 100000 in
theorem drain_any {l : List M} (hD : Dist l) (hR : ∀ m ∈ l, inR m.1 ∧ inR m.2) (hlen : l.length ≤ 1000) (w : World) (base pf pm po pn bm bn : Nat) (vf : Value) (free : List Int) (fr nd : Int → Option Int) (vo : Value) (out : List M) (nm nn : Nat)
    (h : DM w base pf pm po pn bm bn vf free fr nd vo out nm nn) (hi : DInv l free fr nd) (hb1 : nn + pend l fr ≤ 100000) (hb2 : out.length + pend l fr ≤ 100000) (hb3 : free.length ≤ l.length) (k0 : Nat) (hk0 : pend l fr < k0) (rf : Int → Option Int) (ro : List M) (hres : drainF k0 free fr out nd = (rf, ro)) :
    Calls Try.prog 16 #[.pointer (some ⟨pf, 0, none⟩), .pointer (some ⟨pm, 0, none⟩), .pointer (some ⟨po, 0, none⟩), .pointer (some ⟨pn, 0, none⟩)] w fun e w' => e = .returned (.tuple #[]) ∧ ∃ vf' nd' vo' nn', DM w' base pf pm po pn bm bn vf' [] rf nd' vo' ro nm nn' ∧ DInv l [] rf nd' ∧ ro.length + pend l rf ≤ 100000 ∧ Below base w w' := by
  obtain ⟨im, mi0, mz0, mz1, mz2⟩ := info_parts infoM
  obtain ⟨ii, ii0, iz0, iz1, iz2⟩ := info_parts infoI
  have H0 := Lib.hid (And.intro h (And.intro hi (And.intro hb1 (And.intro hb2 (And.intro hb3 (And.intro hk0 hres))))))
  have HDR := Lib.hid (And.intro hD hR)
  obtain ⟨a1, a2, a3, a4, a5⟩ := h.apart
  clear h hi hb1 hb2 hb3 hk0 hres hD hR
  go_enter Try.func16, Try.ntmps16
  go_wp2_with fail
  go_loopg [] k0 (fun k wr => ∃ (vf : Value) (free : List Int) (fr nd : Int → Option Int) (vo : Value) (out : List M) (nn : Nat), Hid (DM wr base pf pm po pn bm bn vf free fr nd vo out nm nn ∧ DInv l free fr nd ∧ nn + pend l fr ≤ 100000 ∧ out.length + pend l fr ≤ 100000 ∧ free.length ≤ l.length ∧ pend l fr < k ∧ drainF k free fr out nd = (rf, ro)) ∧ Hid (Below base w wr))
  case atStart => exact ⟨vf, free, fr, nd, vo, out, nn, H0, Below.refl _ _⟩
  case round =>
    clear H0
    obtain ⟨vf, free, fr, nd, vo, out, nn, HS, HB⟩ := hrel
    obtain ⟨hm, hi, hb1, hb2, hb3, hk, hres⟩ := HS.out
    obtain ⟨k, rfl⟩ : ∃ k, gk = k + 1 := ⟨gk - 1, by omega⟩
    have HM := Lib.hid hm
    obtain ⟨c1, c2, c3, c4, c5, c6⟩ := hm.cells
    cases free with
    | nil =>
      obtain ⟨qa, qc, rfl, hq1, hq2⟩ := hm.qf.shape
      have hr2 : fr = rf ∧ out = ro := by
        have : drainF (k + 1) [] fr out nd = (fr, out) := rfl
        rw [this] at hres
        simpa using hres
      obtain ⟨rfl, rfl⟩ := hr2
      clear hm hi hb1 hb2 hb3 hk hres
      go_wp2_with fail
      go_end0
      exact ⟨rfl, _, nd, vo, nn, HM.out, HS.out.2.1, HS.out.2.2.2.1, HB.out⟩
    | cons a r =>
      obtain ⟨hfa, hca⟩ := hi.zero a (by simp)
      cases hsrc : fr a with
      | none => exact absurd hsrc hfa
      | some src =>
        obtain ⟨g, off, qc, rfl, hhead⟩ := hm.qf.head
        have hq9 := hm.qf.shape
        obtain ⟨qa', qc', hqe, hq1, hq2⟩ := hq9
        simp only [Value.slice.injEq] at hqe
        obtain ⟨-, -, rfl⟩ := hqe
        simp only [List.length_cons] at hq2 hb3
        have htail := hm.qf.tail
        have sl := fun W => run_slice_from (P := Try.prog) 41 3 Try.underlying41 ii0 iz1 (some ⟨g, off, none⟩) (r.length + 1) qc 1 (1 : Int) rfl (by omega) W
        obtain ⟨vt, hvt⟩ : ∃ vt, (Value.slice (if qc = 1 then some ⟨g, off, none⟩ else (some (⟨g, off, none⟩ : Addr)).map (·.add (1 * 1))) (r.length + 1 - 1) (qc - 1)) = vt := ⟨_, rfl⟩
        rw [hvt] at htail sl
        have D1 := Lib.hid (hm.setF htail)
        obtain ⟨hmem, hne⟩ := srcL_mem (hi.sub _ _ hsrc)
        obtain ⟨ra, rs⟩ := HDR.out.2 _ hmem
        simp only at ra rs
        have RA := Lib.hid ra
        have RS := Lib.hid rs
        obtain ⟨n, hn⟩ : ∃ n, (nd src).getD 0 = n := ⟨_, rfl⟩
        have hnc : n = (cntS l fr src : Int) := by rw [← hn]; exact hi.need src
        have hcp := cntS_pos (hi.target hsrc) hsrc
        have hcl : cntS l fr src ≤ l.length := List.countP_le_length
        have hn1 : 1 ≤ n := by omega
        have hn2 : n ≤ 1000 := by omega
        have RN : Hid (inR (n - 1)) := by show _ ∧ _; omega
        have HSrc := Lib.hid (And.intro hsrc hn)
        have HPD := Lib.hid (pend_del HDR.out.1 (hi.target hsrc) fr (by rw [hsrc]; simp))
        have hnn : nn < maxLen := by unfold maxLen; omega
        have ho1 : out.length + 1 ≤ maxLen := by unfold maxLen; omega
        have ho2 : (out.length + 1) * 16 ≤ 140737488355328 := by omega
        have hbs : base ≤ wr.heap.size := HM.out.lt.2.2.2.2.2.2
        have hz : r.length + 1 ≤ 1000 := by omega
        have hvs : ∃ qa2 qc2, vt = .slice qa2 r.length qc2 := by obtain ⟨x, y, e, _⟩ := htail.shape; exact ⟨x, y, e⟩
        obtain ⟨ta, tc, rfl⟩ := hvs
        have hpos : (0 : Int) < (r.length : Int) + 1 := by omega
        have HW : Hid (wrap64 (n - 1) = n - 1) := IntWalk.wrap64_in _ (by omega)
        have HNN := Lib.hid hnn
        have HO1 := Lib.hid ho1
        have HO2 := Lib.hid ho2
        have HZ := Lib.hid hz
        have HN12 := Lib.hid (And.intro hn1 hn2)
        have HBS := Lib.hid hbs
        have HQ := Lib.hid (And.intro hq1 hq2)
        clear hm hi hb1 hb2 hb3 hk hres htail hfa hca hsrc hmem hne ra rs hnc hcp hcl hvt hn hnn ho1 ho2 hz hn1 hn2 hbs hq1 hq2
        cases hfs : (upd fr a none) src with
        | none =>
          have HFS := Lib.hid hfs
          have HBB : Hid ((((upd fr a none) src).isSome && (n - 1 == 0)) = false) := by show _ = _; rw [hfs]; rfl
          clear hfs
          go_wp2_with (first
            | (at_lookup; refine wp_look _ rfl _ _ rfl bm nm _ rfl D1.out.mm a rfl RA.out src (by rw [HSrc.out.1]; rfl) ?_)
            | (at_builtin; refine wpList_append_own_g _ rfl _ _ 24 rfl base 32 im (.agg #[.int .i64 0, .int .i64 0]) 2 16 Try.underlying24 mi0 mz0 mz1 mz2 rfl (by decide) _ _ _ rfl (D1.out.alloc _).oo _ 1 (cellsM [(a, src)]) rfl (rd_mone _ _ a src _ (by simp)) (cellsM_one _) (out.length + 1) rfl (by omega) HO1.out HO2.out (by have := HBS.out; simp; omega) ?_; intro g3 q3 w3 hown3 hgrow3; have hD3 := (D1.out.alloc _).appO hgrow3 (ownM_grow hown3 rfl); have D3 := Lib.hid hD3.2; obtain ⟨e1, e2⟩ := hD3.1; obtain ⟨e3, e4, e5, e6⟩ := (D1.out.alloc _).appO_cells hgrow3)
            | (at_delete; refine wp_delete _ rfl _ _ rfl bm nm _ rfl D3.out.mm a rfl RA.out ?_; intro w4 hm4 hg4; have D4 := Lib.hid (D3.out.turnM hg4 hm4); obtain ⟨f1, f2, f3, f4, f5, f6⟩ := D4.out.cells)
            | (at_lookup; refine wp_look _ rfl _ _ rfl bn nn _ rfl D4.out.mn src rfl RS.out n HSrc.out.2 ?_)
            | (at_mapUpdate; refine wp_store _ rfl _ _ _ rfl bn nn _ rfl D4.out.mn HNN.out src (n - 1) rfl (congrArg (Value.int .i64) HW.out) RS.out RN.out ?_; intro w5 hm5 hg5; have D5 := Lib.hid (D4.out.turnN hg5 hm5); obtain ⟨p1, p2, p3, p4, p5, p6⟩ := D5.out.cells)
            | (at_lookup; refine wp_look_ok _ rfl _ _ rfl bm nm _ rfl D5.out.mm src rfl RS.out 0 false (by rw [HFS.out]; rfl) (by rw [HFS.out]; rfl) ?_))
          go_roundg k
          case measure => omega
          case rel =>
            have hst := HS.out.2.1.step HDR.out.1 HSrc.out.1 HSrc.out.2 (b := false) HBB.out
            have hdr := HS.out.2.2.2.2.2.2
            rw [drain_step HSrc.out.1 HSrc.out.2 (b := false) HBB.out] at hdr
            have hpd := HPD.out
            have hx1 := HS.out.2.2.1
            have hx2 := HS.out.2.2.2.1
            have hx3 := HS.out.2.2.2.2.1
            have hx4 := HS.out.2.2.2.2.2.1
            have hs3 := D3.out.lt.2.2.2.2.2.2
            rw [World.size_setCell] at hs3
            have hbw : Below base w w5 := (((((HB.out.setCell HM.out.lf _).alloc (by have := HBS.out; simp; omega) _).grown hgrow3 (by have := HBS.out; simp; omega) (fun k hk => (own_blk D1.out.oo k hk).1)).setCell HM.out.lo _).grown hg4 (by simpa using hs3) (fun k hk => by cases hk; exact HM.out.lm)).grown hg5 D4.out.lt.2.2.2.2.2.2 (fun k hk => by cases hk; exact HM.out.ln)
            exact ⟨_, _, _, _, _, _, nn + 1, ⟨D5.out, hst, by omega, by simp; omega, by simp at hx3 ⊢; omega, by omega, hdr⟩, hbw⟩
        | some y =>
          have HFS := Lib.hid hfs
          by_cases hz1 : n - 1 = 0
          · have HBB : Hid ((((upd fr a none) src).isSome && (n - 1 == 0)) = true) := by show _ = _; rw [hfs, hz1]; rfl
            have hzb : (n - 1 == 0) = true := by simp [hz1]
            have HNV : Hid ((upd nd src (some (n - 1)) src).getD 0 = n - 1) := by show _ = _; rw [upd_same]; rfl
            clear hfs hz1
            go_wp2_with (first
            | (at_lookup; refine wp_look _ rfl _ _ rfl bm nm _ rfl D1.out.mm a rfl RA.out src (by rw [HSrc.out.1]; rfl) ?_)
            | (at_builtin; refine wpList_append_own_g _ rfl _ _ 24 rfl base 32 im (.agg #[.int .i64 0, .int .i64 0]) 2 16 Try.underlying24 mi0 mz0 mz1 mz2 rfl (by decide) _ _ _ rfl (D1.out.alloc _).oo _ 1 (cellsM [(a, src)]) rfl (rd_mone _ _ a src _ (by simp)) (cellsM_one _) (out.length + 1) rfl (by omega) HO1.out HO2.out (by have := HBS.out; simp; omega) ?_; intro g3 q3 w3 hown3 hgrow3; have hD3 := (D1.out.alloc _).appO hgrow3 (ownM_grow hown3 rfl); have D3 := Lib.hid hD3.2; obtain ⟨e1, e2⟩ := hD3.1; obtain ⟨e3, e4, e5, e6⟩ := (D1.out.alloc _).appO_cells hgrow3)
            | (at_delete; refine wp_delete _ rfl _ _ rfl bm nm _ rfl D3.out.mm a rfl RA.out ?_; intro w4 hm4 hg4; have D4 := Lib.hid (D3.out.turnM hg4 hm4); obtain ⟨f1, f2, f3, f4, f5, f6⟩ := D4.out.cells)
            | (at_lookup; refine wp_look _ rfl _ _ rfl bn nn _ rfl D4.out.mn src rfl RS.out n HSrc.out.2 ?_)
            | (at_mapUpdate; refine wp_store _ rfl _ _ _ rfl bn nn _ rfl D4.out.mn HNN.out src (n - 1) rfl (congrArg (Value.int .i64) HW.out) RS.out RN.out ?_; intro w5 hm5 hg5; have D5 := Lib.hid (D4.out.turnN hg5 hm5); obtain ⟨p1, p2, p3, p4, p5, p6⟩ := D5.out.cells)
            | (at_lookup; refine wp_look_ok _ rfl _ _ rfl bm nm _ rfl D5.out.mm src rfl RS.out y true (by rw [HFS.out]; rfl) (by rw [HFS.out]; rfl) ?_; have lk5 := D5.out.mn.look RS.out; rw [HNV.out] at lk5)
            | (at_builtin; refine wp_que rfl _ _ rfl base _ r rfl (D5.out.alloc _).qf src _ rfl (by simp [go_sem]) (by have := D5.out.lt.2.2.2.2.2.2; simp; omega) (by have := HZ.out; omega) ?_; intro a7 c7 w7 hq7 hg7; have hD7 := (D5.out.alloc _).appF hg7 hq7; have D7 := Lib.hid hD7.2; obtain ⟨s1, s2⟩ := hD7.1))
            go_roundg k
            case measure => omega
            case rel =>
              have hst := HS.out.2.1.step HDR.out.1 HSrc.out.1 HSrc.out.2 (b := true) HBB.out
              have hdr := HS.out.2.2.2.2.2.2
              rw [drain_step HSrc.out.1 HSrc.out.2 (b := true) HBB.out] at hdr
              have hpd := HPD.out
              have hx1 := HS.out.2.2.1
              have hx2 := HS.out.2.2.2.1
              have hx3 := HS.out.2.2.2.2.1
              have hx4 := HS.out.2.2.2.2.2.1
              have hs3 := D3.out.lt.2.2.2.2.2.2
              rw [World.size_setCell] at hs3
              have hbw : Below base w w5 := (((((HB.out.setCell HM.out.lf _).alloc (by have := HBS.out; simp; omega) _).grown hgrow3 (by have := HBS.out; simp; omega) (fun k hk => (own_blk D1.out.oo k hk).1)).setCell HM.out.lo _).grown hg4 (by simpa using hs3) (fun k hk => by cases hk; exact HM.out.lm)).grown hg5 D4.out.lt.2.2.2.2.2.2 (fun k hk => by cases hk; exact HM.out.ln)
              have hs5 := D5.out.lt.2.2.2.2.2.2
              exact ⟨_, _, _, _, _, _, nn + 1, ⟨D7.out, hst, by omega, by simp; omega, by simp at hx3 ⊢; omega, by omega, hdr⟩, ((hbw.alloc hs5 _).grown hg7 (by simp; omega) (fun k hk => (D5.out.qf.lt k hk).1)).setCell HM.out.lf _⟩
          · have HBB : Hid ((((upd fr a none) src).isSome && (n - 1 == 0)) = false) := by show _ = _; rw [hfs]; simp [hz1]
            have hzb : (n - 1 == 0) = false := by simp [hz1]
            have HNV : Hid ((upd nd src (some (n - 1)) src).getD 0 = n - 1) := by show _ = _; rw [upd_same]; rfl
            clear hfs hz1
            go_wp2_with (first
            | (at_lookup; refine wp_look _ rfl _ _ rfl bm nm _ rfl D1.out.mm a rfl RA.out src (by rw [HSrc.out.1]; rfl) ?_)
            | (at_builtin; refine wpList_append_own_g _ rfl _ _ 24 rfl base 32 im (.agg #[.int .i64 0, .int .i64 0]) 2 16 Try.underlying24 mi0 mz0 mz1 mz2 rfl (by decide) _ _ _ rfl (D1.out.alloc _).oo _ 1 (cellsM [(a, src)]) rfl (rd_mone _ _ a src _ (by simp)) (cellsM_one _) (out.length + 1) rfl (by omega) HO1.out HO2.out (by have := HBS.out; simp; omega) ?_; intro g3 q3 w3 hown3 hgrow3; have hD3 := (D1.out.alloc _).appO hgrow3 (ownM_grow hown3 rfl); have D3 := Lib.hid hD3.2; obtain ⟨e1, e2⟩ := hD3.1; obtain ⟨e3, e4, e5, e6⟩ := (D1.out.alloc _).appO_cells hgrow3)
            | (at_delete; refine wp_delete _ rfl _ _ rfl bm nm _ rfl D3.out.mm a rfl RA.out ?_; intro w4 hm4 hg4; have D4 := Lib.hid (D3.out.turnM hg4 hm4); obtain ⟨f1, f2, f3, f4, f5, f6⟩ := D4.out.cells)
            | (at_lookup; refine wp_look _ rfl _ _ rfl bn nn _ rfl D4.out.mn src rfl RS.out n HSrc.out.2 ?_)
            | (at_mapUpdate; refine wp_store _ rfl _ _ _ rfl bn nn _ rfl D4.out.mn HNN.out src (n - 1) rfl (congrArg (Value.int .i64) HW.out) RS.out RN.out ?_; intro w5 hm5 hg5; have D5 := Lib.hid (D4.out.turnN hg5 hm5); obtain ⟨p1, p2, p3, p4, p5, p6⟩ := D5.out.cells)
            | (at_lookup; refine wp_look_ok _ rfl _ _ rfl bm nm _ rfl D5.out.mm src rfl RS.out y true (by rw [HFS.out]; rfl) (by rw [HFS.out]; rfl) ?_; have lk5 := D5.out.mn.look RS.out; rw [HNV.out] at lk5))
            go_roundg k
            case measure => omega
            case rel =>
              have hst := HS.out.2.1.step HDR.out.1 HSrc.out.1 HSrc.out.2 (b := false) HBB.out
              have hdr := HS.out.2.2.2.2.2.2
              rw [drain_step HSrc.out.1 HSrc.out.2 (b := false) HBB.out] at hdr
              have hpd := HPD.out
              have hx1 := HS.out.2.2.1
              have hx2 := HS.out.2.2.2.1
              have hx3 := HS.out.2.2.2.2.1
              have hx4 := HS.out.2.2.2.2.2.1
              have hs3 := D3.out.lt.2.2.2.2.2.2
              rw [World.size_setCell] at hs3
              have hbw : Below base w w5 := (((((HB.out.setCell HM.out.lf _).alloc (by have := HBS.out; simp; omega) _).grown hgrow3 (by have := HBS.out; simp; omega) (fun k hk => (own_blk D1.out.oo k hk).1)).setCell HM.out.lo _).grown hg4 (by simpa using hs3) (fun k hk => by cases hk; exact HM.out.lm)).grown hg5 D4.out.lt.2.2.2.2.2.2 (fun k hk => by cases hk; exact HM.out.ln)
              exact ⟨_, _, _, _, _, _, nn + 1, ⟨D5.out, hst, by omega, by simp; omega, by simp at hx3 ⊢; omega, by omega, hdr⟩, hbw⟩
end Go.Proofs.Ytmdmfciicoldoaa
