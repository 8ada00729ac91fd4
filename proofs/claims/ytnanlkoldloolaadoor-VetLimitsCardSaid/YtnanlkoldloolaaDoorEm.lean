/- Vet: what is known, by whatever is read of an image's debug information. -/
import Derived.Test.YtnanlkoldloolaaDoorEc
import Derived.Test.YtnanlkoldloolaaDoorEl
import Derived.Test.YtnanlkoldloolaaDoorEs
namespace Go.Proofs.YtnanlkoldloolaaDoor
open Go.RowKit

def markBad (mn : Nat) (x : W) : Bool := x.op == 44 && decide ((mn : Int) ≤ x.imm)
def siteBad (l : List W) (s : Int × Int) : Bool := decide ((l.length : Int) ≤ s.1) || !trapsB ((l[s.1.toNat]?.map W.op).getD 0)
def seenS (sl : List (Int × Int)) (x : Int) : Bool := sl.any (fun s => s.1 == x)
def unsited (sl : List (Int × Int)) (j : Nat) (x : W) : Bool := trapsB x.op && !seenS sl j

/-- What 'debug' answers, where the debug information has so many marks and these sites. -/
def DebugIs (l : List W) (mn : Nat) (sl : List (Int × Int)) (at' er : Int) : Prop :=
  (∃ j, ∃ h : j < l.length, markBad mn l[j] = true ∧ (∀ i (hi : i < l.length), i < j → markBad mn l[i] = false) ∧ at' = j ∧ er = 14) ∨
  ((∀ i (hi : i < l.length), i < l.length → markBad mn l[i] = false) ∧
   ((∃ j, ∃ h : j < sl.length, siteBad l sl[j] = true ∧ (∀ i (hi : i < sl.length), i < j → siteBad l sl[i] = false) ∧ at' = j ∧ er = 14) ∨
    ((∀ i (hi : i < sl.length), i < sl.length → siteBad l sl[i] = false) ∧
     ((∃ j, ∃ h : j < l.length, unsited sl j l[j] = true ∧ (∀ i (hi : i < l.length), i < j → unsited sl i l[i] = false) ∧ at' = j ∧ er = 14) ∨
      ((∀ i (hi : i < l.length), i < l.length → unsited sl i l[i] = false) ∧ at' = 0 ∧ er = 0)))))

theorem seenS_take {sl : List (Int × Int)} {j : Nat} (h : j < sl.length) : seenS (sl.take (j + 1)) = upd (seenS (sl.take j)) sl[j].1 true := by
  funext x
  unfold seenS upd
  rw [List.take_succ_eq_append_getElem h, List.any_append]
  by_cases hx : x = sl[j].1
  · simp [hx]
  · simp [hx, Ne.symm hx]

set_option maxRecDepth 100000 in
set_option maxHeartbeats 8000000 in
theorem debug_any (wv : Value) (l : List W) (ea : Option Addr) (en ec : Nat) (m : Int) (pa : Option Addr) (pn pc : Nat) (w : World) (hv : RdW w wv l) (hl : 0 < l.length) (hn : l.length ≤ 262144)
   (Good : Int → Nat → List (Int × Int) → Prop) (hgood : ∀ mn sl, Good 0 mn sl → ∀ s ∈ sl, 0 ≤ s.1 ∧ s.1 ≤ 2147483647)
   (HD : ∀ W : World, Below w.heap.size w W → Calls Tryd.prog 27 #[.slice pa pn pc] W fun e w' => (∃ sa sn sc ma mn mc tv sl er, e = .returned (.tuple #[.agg #[.slice sa sn sc, .slice ma mn mc, tv], .int .i64 er]) ∧ RdE w' tv sl ∧ Good er mn sl) ∧ Below W.heap.size W w') :
   Calls Tryd.prog 19 #[.agg #[wv, .slice ea en ec, .int .i64 m, .slice pa pn pc]] w fun e w' => (∃ er mn sl, Good er mn sl ∧ ((er ≠ 0 ∧ e = .returned (.tuple #[.int .i64 0, .int .i64 4])) ∨ (er = 0 ∧ ∃ at' f, DebugIs l mn sl at' f ∧ e = .returned (.tuple #[.int .i64 at', .int .i64 f])))) ∧ Below w.heap.size w w' := by
  rcases hv.split with ⟨a, c, rfl, rfl⟩ | ⟨b, off, c, rfl, hp2, hlc, hc9, hb, hcell⟩
  · simp at hl
  have HC := Lib.hid hcell
  have HHD := Lib.hid HD
  clear hcell hv HD
  go_enter Tryd.func19, Tryd.ntmps19
  go_wp2_with fail
  refine (HHD.out _ ((Below.refl _ _).alloc (Nat.le_refl _) _)).mono ?_
  rintro e w1 ⟨⟨sa, sn, sc, ma, mn, mc, tv, sl, er, rfl, htv, hG⟩, hb1⟩
  have hs1 : w.heap.size + 1 ≤ w1.heap.size := by have := hb1.size; simpa using this
  have hs2 : w.heap.size < w1.heap.size := by omega
  have k0 : w1.cell? ⟨w.heap.size, 0, none⟩ = some (.slice (some ⟨b, off, none⟩) l.length c) := by rw [hb1.cell (by simp)]; simp
  have HB1 := Lib.hid hb1
  have HGG := Lib.hid hG
  have HTV := Lib.hid htv
  clear hb1 hG
  obtain ⟨ta, tc, rfl⟩ := Rd.shape htv
  clear htv
  by_cases her : er = 0
  · subst her
    go_wp2_with fail
    have hmm := fun w => run_makeMap (P := Tryd.prog) 75 w
    have hl9 : l.length ≤ 9223372036854775807 := by omega
    go_loopw [26] (fun i wr => ∃ j : Nat, j ≤ l.length ∧ i = .int .i64 j ∧ (∀ i (hi : i < l.length), i < j → markBad mn l[i] = false) ∧ Below (w1.heap.size + 1) (w1.alloc (.cells #[.slice sa sn sc, .slice ma mn mc, .slice ta sl.length tc] 64)) wr) (fun i _ => l.length - (intOf i).toNat)
    case atStart => exact ⟨0, by omega, rfl, fun i _ h => absurd h (by omega), Below.refl _ _⟩
    case round =>
      obtain ⟨j, hj, rfl, hall, hbel⟩ := hrel
      have HB := Lib.hid hbel
      have HA := Lib.hid hall
      have hs3 : w1.heap.size + 1 ≤ wr.heap.size := by simpa using hbel.size
      have hs4 : w1.heap.size < wr.heap.size := by omega
      have hs5 : w.heap.size < wr.heap.size := by omega
      have hb5 : b < w1.heap.size := by omega
      have g1 : wr.cell? ⟨w1.heap.size, 1, none⟩ = some (.slice ma mn mc) := by rw [hbel.cell (by simp)]; simp
      clear hall
      by_cases hlt : j < l.length
      · obtain ⟨d0, d1, d2, d3, d4⟩ := HC.out j hlt
        have hcl : ∀ p : Addr, p.block < w.heap.size → wr.cell? p = w.cell? p := fun p hp => by
          rw [hbel.cell (by omega), World.cell?_alloc_lt _ _ _ (by omega), HB1.out.cell (by simp; omega)]; exact World.cell?_alloc_lt _ _ _ hp
        rw [← hcl ⟨b, off + j * 5, none⟩ hb] at d0
        rw [← hcl ⟨b, off + j * 5 + 1, none⟩ hb] at d1
        rw [← hcl ⟨b, off + j * 5 + 2, none⟩ hb] at d2
        rw [← hcl ⟨b, off + j * 5 + 3, none⟩ hb] at d3
        rw [← hcl ⟨b, off + j * 5 + 4, none⟩ hb] at d4
        clear hcl hbel
        obtain ⟨x, hx⟩ : ∃ x, l[j] = x := ⟨_, rfl⟩
        rw [hx] at d0 d1 d2 d3 d4
        have HX := Lib.hid hx
        clear hx
        have HBT : ∀ o, Hid (Below w.heap.size w (wr.alloc o)) := fun o => by
          have h1 := HB1.out
          simp only [World.size_alloc] at h1
          exact ((Below.refl _ _).alloc (Nat.le_refl _) _).trans (((h1.trans (((Below.refl _ _).alloc (Nat.le_refl _) _).trans (HB.out.mono (by omega)) |>.mono (by omega))).alloc (by omega) _).mono (by omega))
        have hNX : ∀ (_ : markBad mn x = false), ∀ i (hi : i < l.length), i < j + 1 → markBad mn l[i] = false := fun h i hi hij => by
          by_cases hij2 : i < j
          · exact HA.out i hi hij2
          · obtain rfl : i = j := by omega
            rw [HX.out]; exact h
        have HNX := Lib.hid hNX
        clear hNX
        go_wp2_with fail
        all_goals first
          | (go_ret2
             exact ⟨⟨0, mn, sl, HGG.out, .inr ⟨rfl, j, 14, .inl ⟨j, hlt, by rw [HX.out]; clear HC HHD HB1 HGG HTV HB HA HX HBT HNX; simp [markBad, *], HA.out, rfl, rfl⟩, rfl⟩⟩, (HBT _).out⟩)
          | (refine ⟨⟨j + 1, by omega, by go_num, HNX.out (by clear HC HHD HB1 HGG HTV HB HA HX HBT HNX; simp [markBad, *]), HB.out.alloc hs3 _⟩, by simp [intOf]; omega⟩)
      · obtain rfl : j = l.length := by omega
        have g2 : wr.cell? ⟨w1.heap.size, 2, none⟩ = some (.slice ta sl.length tc) := by rw [hbel.cell (by simp)]; simp
        have g0 : wr.cell? ⟨w.heap.size, 0, none⟩ = some (.slice (some ⟨b, off, none⟩) l.length c) := by rw [hbel.cell (by simp; omega), World.cell?_alloc_lt _ _ _ (by simpa using hs2)]; exact k0
        clear hbel g1
        obtain ⟨wm, hwm⟩ : ∃ wm, wm = wr := ⟨_, rfl⟩
        subst hwm
        have HBW0 : Hid (Below w.heap.size w wm) := by
          have h1 := HB1.out
          simp only [World.size_alloc] at h1
          exact ((Below.refl _ _).alloc (Nat.le_refl _) _).trans ((h1.mono (by omega)).trans (((Below.refl _ _).alloc (by omega) _).trans (HB.out.mono (by omega))))
        have HBW1 : Hid (Below w1.heap.size w1 wm) := ((Below.refl _ _).alloc (by omega) _).trans (HB.out.mono (by omega))
        have hsl9 : sl.length ≤ 9223372036854775807 := Rd.le HTV.out
        have hslm : sl.length ≤ maxLen := by
          rcases HTV.out.2 with ⟨_, h⟩ | ⟨_, _, _, h1, h2, _⟩
          · rw [h]; exact Nat.zero_le _
          · exact Nat.le_trans h1 h2
        have HA1 := Lib.hid HA.out
        clear HA HB
        go_wp2_with fail
        go_loopw [48] (fun i wr => ∃ j : Nat, j ≤ sl.length ∧ i = .int .i64 j ∧ (∀ i (hi : i < sl.length), i < j → siteBad l sl[i] = false) ∧ Below wm.heap.size wm wr ∧ SetAt wr wm.heap.size j (seenS (sl.take j))) (fun i _ => sl.length - (intOf i).toNat)
        case atStart => exact ⟨0, by omega, rfl, fun i _ h => absurd h (by omega), (Below.refl _ _).alloc (Nat.le_refl _) _, SetAt.made wm⟩
        case round =>
          obtain ⟨j, hj, rfl, hall, hbel, hset⟩ := hrel
          have HB := Lib.hid hbel
          have HA := Lib.hid hall
          have HS := Lib.hid hset
          have hs6 : wm.heap.size < wr.heap.size := hset.lt
          have g0s : wr.cell? ⟨w.heap.size, 0, none⟩ = some (.slice (some ⟨b, off, none⟩) l.length c) := by rw [hbel.cell (by simp; omega)]; exact g0
          have HCW := Lib.hid (fun (p : Addr) (hp : p.block < w.heap.size) => show wr.cell? p = w.cell? p by rw [hbel.cell (by omega), HBW0.out.cell (by omega)])
          clear hall hset
          by_cases hlt : j < sl.length
          · rcases RdE.split HTV.out with ⟨_, _, _, rfl⟩ | ⟨tb, toff, tcc, htv, htp, htl, _, htb, htcell⟩
            · simp at hlt
            obtain ⟨rfl, -, rfl⟩ := htv
            obtain ⟨d0, d1⟩ := htcell j hlt
            rw [← HBW1.out.cell (by simpa using htb), ← hbel.cell (by simp; omega)] at d0 d1
            clear htcell hbel
            obtain ⟨s, hs⟩ : ∃ s, sl[j] = s := ⟨_, rfl⟩
            rw [hs] at d0 d1
            have hsg := hgood mn sl HGG.out sl[j] (List.getElem_mem hlt)
            rw [hs] at hsg
            have HX := Lib.hid hs
            clear hs
            have hs7 : w.heap.size < wr.heap.size := by omega
            have hb7 : b < wr.heap.size := by omega
            have HBT : ∀ o, Hid (Below w.heap.size w (wr.alloc o)) := fun o => (HBW0.out.trans (HB.out.mono (by omega))).alloc (by omega) _
            obtain ⟨k, hk⟩ : ∃ k : Nat, s.1 = k := ⟨s.1.toNat, by omega⟩
            have HK := Lib.hid hk
            rw [hk] at d0
            have hsgk : (k : Int) ≤ 2147483647 := by rw [← hk]; exact hsg.2
            clear hk hsg
            by_cases hkl : k < l.length
            · have hge : decide (l.length ≤ k) = false := decide_eq_false (by omega)
              obtain ⟨f0, -, -, -, -⟩ := HC.out k hkl
              rw [← HCW.out ⟨b, off + k * 5, none⟩ hb] at f0
              obtain ⟨op, hop⟩ : ∃ op, l[k].op = op := ⟨_, rfl⟩
              rw [hop] at f0
              have HOP := Lib.hid hop
              clear hop HCW
              have hSB : siteBad l s = !trapsB op := by
                unfold siteBad
                rw [HK.out]
                simp [hkl, HOP.out]; omega
              have HSB := Lib.hid hSB
              clear hSB
              go_wp2_with fail
              refine (traps_any op _).mono ?_
              rintro e w3 ⟨rfl, rfl⟩
              cases htr : trapsB op
              · have HTR := Lib.hid htr
                clear htr
                go_wp2_with fail
                go_ret2
                exact ⟨⟨0, mn, sl, HGG.out, .inr ⟨rfl, j, 14, .inr ⟨HA1.out, .inl ⟨j, hlt, by rw [HX.out, HSB.out, HTR.out]; rfl, HA.out, rfl, rfl⟩⟩, rfl⟩⟩, (HBT _).out⟩
              · have HTR := Lib.hid htr
                clear htr
                go_wp2_with (refine wp_add _ rfl _ _ _ rfl wm.heap.size j (seenS (sl.take j)) rfl (HS.out.alloc _) (by omega) k rfl rfl ⟨by omega, by omega⟩ (fun w5 hs5' hg5 => ?_))
                have HH : ∀ i (hi : i < sl.length), i < j + 1 → siteBad l sl[i] = false := fun i hi hij => by
                  by_cases hij2 : i < j
                  · exact HA.out i hi hij2
                  · obtain rfl : i = j := by omega
                    rw [HX.out, HSB.out, HTR.out]; rfl
                exact ⟨⟨j + 1, by omega, by go_num, HH, (HB.out.alloc (by omega) _).grown hg5 (by simp; omega) (fun z hz => by cases hz; exact Nat.le_refl _), by rw [seenS_take hlt, HX.out, HK.out]; exact hs5'⟩, by simp [intOf]; omega⟩
            · have hge : decide (l.length ≤ k) = true := decide_eq_true (by omega)
              clear HCW
              go_wp2_with fail
              go_ret2
              exact ⟨⟨0, mn, sl, HGG.out, .inr ⟨rfl, j, 14, .inr ⟨HA1.out, .inl ⟨j, hlt, by rw [HX.out]; unfold siteBad; rw [HK.out]; simp; left; omega, HA.out, rfl, rfl⟩⟩, rfl⟩⟩, (HBT _).out⟩
          · obtain rfl : j = sl.length := by omega
            obtain ⟨wt, hwt⟩ : ∃ wt, wt = wr := ⟨_, rfl⟩
            subst hwt
            have HS2 : Hid (SetAt wt wm.heap.size sl.length (seenS sl)) := by have := HS.out; rwa [List.take_length] at this
            have HBW2 : Hid (Below w.heap.size w wt) := HBW0.out.trans (HB.out.mono (by omega))
            have HA2 := Lib.hid HA.out
            clear HS HA HCW hbel
            have hs8 : w.heap.size < wt.heap.size := by omega
            go_wp2_with fail
            go_loopw [79] (fun i wr => ∃ j : Nat, j ≤ l.length ∧ i = .int .i64 j ∧ (∀ i (hi : i < l.length), i < j → unsited sl i l[i] = false) ∧ Below wt.heap.size wt wr) (fun i _ => l.length - (intOf i).toNat)
            case atStart => exact ⟨0, by omega, rfl, fun i _ h => absurd h (by omega), Below.refl _ _⟩
            case round =>
              obtain ⟨j, hj, rfl, hall, hbel⟩ := hrel
              have HB3 := Lib.hid hbel
              have HA := Lib.hid hall
              clear hall
              have hs9 : wt.heap.size ≤ wr.heap.size := hbel.size
              by_cases hlt : j < l.length
              · obtain ⟨d0, d1, d2, d3, d4⟩ := HC.out j hlt
                have hcl : ∀ p : Addr, p.block < w.heap.size → wr.cell? p = w.cell? p := fun p hp => by
                  rw [hbel.cell (by omega), HBW2.out.cell (by omega)]
                rw [← hcl ⟨b, off + j * 5, none⟩ hb] at d0
                rw [← hcl ⟨b, off + j * 5 + 1, none⟩ hb] at d1
                rw [← hcl ⟨b, off + j * 5 + 2, none⟩ hb] at d2
                rw [← hcl ⟨b, off + j * 5 + 3, none⟩ hb] at d3
                rw [← hcl ⟨b, off + j * 5 + 4, none⟩ hb] at d4
                clear hcl hbel
                obtain ⟨x, hx⟩ : ∃ x, l[j] = x := ⟨_, rfl⟩
                rw [hx] at d0 d1 d2 d3 d4
                have HX := Lib.hid hx
                clear hx
                have HSW : Hid (SetAt wr wm.heap.size sl.length (seenS sl)) := HS2.out.kept (row := none) ⟨HB3.out.os, HB3.out.tape, HB3.out.output, HB3.out.size, fun k hk _ => HB3.out.block k hk⟩ (by simp)
                obtain ⟨sd, hsd⟩ : ∃ sd, seenS sl j = sd := ⟨_, rfl⟩
                have HSD := Lib.hid hsd
                have hlk := fun o => (HSW.out.alloc o).look_ok (x := j) ⟨by omega, by omega⟩
                rw [hsd] at hlk
                clear hsd
                go_wp2_with fail
                refine (traps_any x.op _).mono ?_
                rintro e w3 ⟨rfl, rfl⟩
                have HBT : ∀ o o', Hid (Below w.heap.size w ((wr.alloc o).alloc o')) := fun o o' => ((HBW2.out.trans (HB3.out.mono (by omega))).alloc (by omega) _).alloc (by simp; omega) _
                have HBN : ∀ o o', Hid (Below wt.heap.size wt ((wr.alloc o).alloc o')) := fun o o' => (HB3.out.alloc (by omega) _).alloc (by simp; omega) _
                have HNX : ∀ (_ : unsited sl j x = false), ∀ i (hi : i < l.length), i < j + 1 → unsited sl i l[i] = false := fun h i hi hij => by
                  by_cases hij2 : i < j
                  · exact HA.out i hi hij2
                  · obtain rfl : i = j := by omega
                    rw [HX.out]; exact h
                have HUN : Hid (unsited sl j x = (trapsB x.op && !sd)) := by show _ = _; unfold unsited; rw [HSD.out]
                have HNX := Lib.hid HNX
                obtain ⟨tr, htr⟩ : ∃ tr, trapsB x.op = tr := ⟨_, rfl⟩
                rw [htr] at HUN ⊢
                clear htr hlk
                cases tr
                · go_wp2_with fail
                  exact ⟨⟨j + 1, by omega, by go_num, HNX.out (by rw [HUN.out]; rfl), (HBN _ _).out⟩, by simp [intOf]; omega⟩
                · cases sd
                  · go_wp2_with fail
                    go_ret2
                    exact ⟨⟨0, mn, sl, HGG.out, .inr ⟨rfl, j, 14, .inr ⟨HA1.out, .inr ⟨HA2.out, .inl ⟨j, hlt, by rw [HX.out, HUN.out]; rfl, HA.out, rfl, rfl⟩⟩⟩, rfl⟩⟩, (HBT _ _).out⟩
                  · go_wp2_with fail
                    exact ⟨⟨j + 1, by omega, by go_num, HNX.out (by rw [HUN.out]; rfl), (HBN _ _).out⟩, by simp [intOf]; omega⟩
              · obtain rfl : j = l.length := by omega
                go_wp2_with fail
                go_ret2
                exact ⟨⟨0, mn, sl, HGG.out, .inr ⟨rfl, 0, 0, .inr ⟨HA1.out, .inr ⟨HA2.out, .inr ⟨HA.out, rfl, rfl⟩⟩⟩, rfl⟩⟩, HBW2.out.trans (HB3.out.mono (by omega))⟩
  · go_wp2_with fail
    go_ret2
    exact ⟨⟨er, mn, sl, HGG.out, .inl ⟨her, rfl⟩⟩, ((Below.refl _ _).alloc (Nat.le_refl _) _).trans ((HB1.out.mono (by simp)).alloc (by omega) _)⟩
end Go.Proofs.YtnanlkoldloolaaDoor
