/- Vet: what is known, by whatever is read of an image's debug information. -/
import Derived.Test.YtnanlkoldloolaaDoorQ14
import Derived.Test.YtnanlkoldloolaaDoorQ6
import Derived.Test.YtnanlkoldloolaaDoorQ8
namespace Go.Proofs.YtnanlkoldloolaaDoor
open Go.RowKit

def markBad (mn : Nat) (x : W) : Bool := x.op == 44 && decide ((mn : Int) ≤ x.imm)
def siteBad (l : List W) (s : Int × Int) : Bool := decide ((l.length : Int) ≤ s.1) || !trapsB ((l[s.1.toNat]?.map W.op).getD 0)
def seenS (sl : List (Int × Int)) (x : Int) : Bool := sl.any (fun s => s.1 == x)
def unsited (sl : List (Int × Int)) (j : Nat) (x : W) : Bool := trapsB x.op && !seenS sl j

/-- What 'debug' answers, where the debug information has so many marks and these sites. -/
def DebugIs (l : List W) (mn : Nat) (sl : List (Int × Int)) (at' er : Int) : Prop :=
  (∃ j, ∃ h : j < l.length, markBad mn l[j] = true ∧ (∀ i (hi : i < l.length), i < j → markBad mn l[i] = false) ∧ at' = j ∧ er = 14) ∨
  ((∀ i (hi : i < l.length), i < l.length → markBad mn l[i] = false) ∧
   ((∃ j, ∃ h : j < sl.length, siteBad l sl[j] = true ∧ (∀ i (hi : i < sl.length), i < j → siteBad l sl[i] = false) ∧ at' = j ∧ er = 14) ∨
    ((∀ i (hi : i < sl.length), i < sl.length → siteBad l sl[i] = false) ∧
     ((∃ j, ∃ h : j < l.length, unsited sl j l[j] = true ∧ (∀ i (hi : i < l.length), i < j → unsited sl i l[i] = false) ∧ at' = j ∧ er = 14) ∨
      ((∀ i (hi : i < l.length), i < l.length → unsited sl i l[i] = false) ∧ at' = 0 ∧ er = 0)))))

theorem seenS_take {sl : List (Int × Int)} {j : Nat} (h : j < sl.length) : seenS (sl.take (j + 1)) = upd (seenS (sl.take j)) sl[j].1 true := by
  funext x
  unfold seenS upd
  rw [List.take_succ_eq_append_getElem h, List.any_append]
  by_cases hx : x = sl[j].1
  · simp [hx]
  · simp [hx, Ne.symm hx]

set_option maxRecDepth 100000 in
set_option maxHeartbeats 8000000 in
theorem debug_any (wv : Value) (l : List W) (ea : Option Addr) (en ec : Nat) (m : Int) (pa : Option Addr) (pn pc : Nat) (w : World) (hv : RdW w wv l) (hl : 0 < l.length) (hn : l.length ≤ 262144)
   (Good : Int → Nat → List (Int × Int) → Prop) (hgood : ∀ mn sl, Good 0 mn sl → ∀ s ∈ sl, 0 ≤ s.1 ∧ s.1 ≤ 2147483647)
   (HD : ∀ W : World, Below w.heap.size w W → Calls Tryd.prog 27 #[.slice pa pn pc] W fun e w' => (∃ sa sn sc ma mn mc tv sl er, e = .returned (.tuple #[.agg #[.slice sa sn sc, .slice ma mn mc, tv], .int .i64 er]) ∧ RdE w' tv sl ∧ Good er mn sl) ∧ Below W.heap.size W w') :
   Calls Tryd.prog 19 #[.agg #[wv, .slice ea en ec, .int .i64 m, .slice pa pn pc]] w fun e w' => (∃ er mn sl, Good er mn sl ∧ ((er ≠ 0 ∧ e = .returned (.tuple #[.int .i64 0, .int .i64 4])) ∨ (er = 0 ∧ ∃ at' f, DebugIs l mn sl at' f ∧ e = .returned (.tuple #[.int .i64 at', .int .i64 f])))) ∧ Below w.heap.size w w' := by
  rcases hv.split with ⟨a, c, rfl, rfl⟩ | ⟨b, off, c, rfl, hp2, hlc, hc9, hb, hcell⟩
  · simp at hl
  have HC := Lib.hid hcell
  have HHD := Lib.hid HD
  clear hcell hv HD
  go_enter Tryd.func19, Tryd.ntmps19
  go_wp2_with fail
  refine (HHD.out _ ((Below.refl _ _).alloc (Nat.le_refl _) _)).mono ?_
  rintro e w1 ⟨⟨sa, sn, sc, ma, mn, mc, tv, sl, er, rfl, htv, hG⟩, hb1⟩
  have hs1 : w.heap.size + 1 ≤ w1.heap.size := by have := hb1.size; simpa using this
  have hs2 : w.heap.size < w1.heap.size := by omega
  have k0 : w1.cell? ⟨w.heap.size, 0, none⟩ = some (.slice (some ⟨b, off, none⟩) l.length c) := by rw [hb1.cell (by simp)]; simp
  have HB1 := Lib.hid hb1
  have HGG := Lib.hid hG
  have HTV := Lib.hid htv
  clear hb1 hG
  obtain ⟨ta, tc, rfl⟩ := Rd.shape htv
  clear htv
  by_cases her : er = 0
  · subst her
    go_wp2_with fail
    have hmm := fun w => run_makeMap (P := Tryd.prog) 75 w
    have hl9 : l.length ≤ 9223372036854775807 := by omega
    go_loopw [26] (fun i wr => ∃ j : Nat, j ≤ l.length ∧ i = .int .i64 j ∧ (∀ i (hi : i < l.length), i < j → markBad mn l[i] = false) ∧ Below (w1.heap.size + 1) (w1.alloc (.cells #[.slice sa sn sc, .slice ma mn mc, .slice ta sl.length tc] 64)) wr) (fun i _ => l.length - (intOf i).toNat)
    case atStart => exact ⟨0, by omega, rfl, fun i _ h => absurd h (by omega), Below.refl _ _⟩
    case round =>
      obtain ⟨j, hj, rfl, hall, hbel⟩ := hrel
      have HB := Lib.hid hbel
      have HA := Lib.hid hall
      have hs3 : w1.heap.size + 1 ≤ wr.heap.size := by simpa using hbel.size
      have hs4 : w1.heap.size < wr.heap.size := by omega
      have hs5 : w.heap.size < wr.heap.size := by omega
      have hb5 : b < w1.heap.size := by omega
      have g1 : wr.cell? ⟨w1.heap.size, 1, none⟩ = some (.slice ma mn mc) := by rw [hbel.cell (by simp)]; simp
      clear hall
      by_cases hlt : j < l.length
      · obtain ⟨d0, d1, d2, d3, d4⟩ := HC.out j hlt
        have hcl : ∀ p : Addr, p.block < w.heap.size → wr.cell? p = w.cell? p := fun p hp => by
          rw [hbel.cell (by omega), World.cell?_alloc_lt _ _ _ (by omega), HB1.out.cell (by simp; omega)]; exact World.cell?_alloc_lt _ _ _ hp
        rw [← hcl ⟨b, off + j * 5, none⟩ hb] at d0
        rw [← hcl ⟨b, off + j * 5 + 1, none⟩ hb] at d1
        rw [← hcl ⟨b, off + j * 5 + 2, none⟩ hb] at d2
        rw [← hcl ⟨b, off + j * 5 + 3, none⟩ hb] at d3
        rw [← hcl ⟨b, off + j * 5 + 4, none⟩ hb] at d4
        clear hcl hbel
        obtain ⟨x, hx⟩ : ∃ x, l[j] = x := ⟨_, rfl⟩
        rw [hx] at d0 d1 d2 d3 d4
        have HX := Lib.hid hx
        clear hx
        have HBT : ∀ o, Hid (Below w.heap.size w (wr.alloc o)) := fun o => by
          have h1 := HB1.out
          simp only [World.size_alloc] at h1
          exact ((Below.refl _ _).alloc (Nat.le_refl _) _).trans (((h1.trans (((Below.refl _ _).alloc (Nat.le_refl _) _).trans (HB.out.mono (by omega)) |>.mono (by omega))).alloc (by omega) _).mono (by omega))
        have hNX : ∀ (_ : markBad mn x = false), ∀ i (hi : i < l.length), i < j + 1 → markBad mn l[i] = false := fun h i hi hij => by
          by_cases hij2 : i < j
          · exact HA.out i hi hij2
          · obtain rfl : i = j := by omega
            rw [HX.out]; exact h
        have HNX := Lib.hid hNX
        clear hNX
        go_wp2_with fail
        all_goals first
          | (go_ret2
             exact ⟨⟨0, mn, sl, HGG.out, .inr ⟨rfl, j, 14, .inl ⟨j, hlt, by rw [HX.out]; clear HC HHD HB1 HGG HTV HB HA HX HBT HNX; simp [markBad, *], HA.out, rfl, rfl⟩, rfl⟩⟩, (HBT _).out⟩)
          | (refine ⟨⟨j + 1, by omega, by go_num, HNX.out (by clear HC HHD HB1 HGG HTV HB HA HX HBT HNX; simp [markBad, *]), HB.out.alloc hs3 _⟩, by simp [intOf]; omega⟩)
      · obtain rfl : j = l.length := by omega
        have g2 : wr.cell? ⟨w1.heap.size, 2, none⟩ = some (.slice ta sl.length tc) := by rw [hbel.cell (by simp)]; simp
        have g0 : wr.cell? ⟨w.heap.size, 0, none⟩ = some (.slice (some ⟨b, off, none⟩) l.length c) := by rw [hbel.cell (by simp; omega), World.cell?_alloc_lt _ _ _ (by simpa using hs2)]; exact k0
        clear hbel g1
        obtain ⟨wm, hwm⟩ : ∃ wm, wm = wr := ⟨_, rfl⟩
        subst hwm
        have HBW0 : Hid (Below w.heap.size w wm) := by
          have h1 := HB1.out
          simp only [World.size_alloc] at h1
          exact ((Below.refl _ _).alloc (Nat.le_refl _) _).trans ((h1.mono (by omega)).trans (((Below.refl _ _).alloc (by omega) _).trans (HB.out.mono (by omega))))
        have HBW1 : Hid (Below w1.heap.size w1 wm) := ((Below.refl _ _).alloc (by omega) _).trans (HB.out.mono (by omega))
        have hsl9 : sl.length ≤ 9223372036854775807 := Rd.le HTV.out
        have hslm : sl.length ≤ maxLen := by
          rcases HTV.out.2 with ⟨_, h⟩ | ⟨_, _, _, h1, h2, _⟩
          · rw [h]; exact Nat.zero_le _
          · exact Nat.le_trans h1 h2
        have HA1 := Lib.hid HA.out
        clear HA HB
        go_wp2_with fail
        go_loopw [48] (fun i wr => ∃ j : Nat, j ≤ sl.length ∧ i = .int .i64 j ∧ (∀ i (hi : i < sl.length), i < j → siteBad l sl[i] = false) ∧ Below wm.heap.size wm wr ∧ SetAt wr wm.heap.size j (seenS (sl.take j))) (fun i _ => sl.length - (intOf i).toNat)
        case atStart => exact ⟨0, by omega, rfl, fun i _ h => absurd h (by omega), (Below.refl _ _).alloc (Nat.le_refl _) _, SetAt.made wm⟩
        case round =>
          obtain ⟨j, hj, rfl, hall, hbel, hset⟩ := hrel
          have HB := Lib.hid hbel
          have HA := Lib.hid hall
          have HS := Lib.hid hset
          have hs6 : wm.heap.size < wr.heap.size := hset.lt
          have g0s : wr.cell? ⟨w.heap.size, 0, none⟩ = some (.slice (some ⟨b, off, none⟩) l.length c) := by rw [hbel.cell (by simp; omega)]; exact g0
          have HCW := Lib.hid (fun (p : Addr) (hp : p.block < w.heap.size) => show wr.cell? p = w.cell? p by rw [hbel.cell (by omega), HBW0.out.cell (by omega)])
          clear hall hset
          by_cases hlt : j < sl.length
          · rcases RdE.split HTV.out with ⟨_, _, _, rfl⟩ | ⟨tb, toff, tcc, htv, htp, htl, _, htb, htcell⟩
            · simp at hlt
            obtain ⟨rfl, -, rfl⟩ := htv
            obtain ⟨d0, d1⟩ := htcell j hlt
            rw [← HBW1.out.cell (by simpa using htb), ← hbel.cell (by simp; omega)] at d0 d1
            clear htcell hbel
            obtain ⟨s, hs⟩ : ∃ s, sl[j] = s := ⟨_, rfl⟩
            rw [hs] at d0 d1
            have hsg := hgood mn sl HGG.out sl[j] (List.getElem_mem hlt)
            rw [hs] at hsg
            have HX := Lib.hid hs
            clear hs
            have hs7 : w.heap.size < wr.heap.size := by omega
            have hb7 : b < wr.heap.size := by omega
            have HBT : ∀ o, Hid (Below w.heap.size w (wr.alloc o)) := fun o => (HBW0.out.trans (HB.out.mono (by omega))).alloc (by omega) _
            obtain ⟨k, hk⟩ : ∃ k : Nat, s.1 = k := ⟨s.1.toNat, by omega⟩
            have HK := Lib.hid hk
            rw [hk] at d0
            have hsgk : (k : Int) ≤ 2147483647 := by rw [← hk]; exact hsg.2
            clear hk hsg
            by_cases hkl : k < l.length
            · have hge : decide (l.length ≤ k) = false := decide_eq_false (by omega)
              obtain ⟨f0, -, -, -, -⟩ := HC.out k hkl
              rw [← HCW.out ⟨b, off + k * 5, none⟩ hb] at f0
              obtain ⟨op, hop⟩ : ∃ op, l[k].op = op := ⟨_, rfl⟩
              rw [hop] at f0
              have HOP := Lib.hid hop
              clear hop HCW
              have hSB : siteBad l s = !trapsB op := by
                unfold siteBad
                rw [HK.out]
                simp [hkl, HOP.out]; omega
              have HSB := Lib.hid hSB
              clear hSB
              go_wp2_with fail
              refine (traps_any op _).mono ?_
              rintro e w3 ⟨rfl, rfl⟩
              cases htr : trapsB op
              · have HTR := Lib.hid htr
                clear htr
                go_wp2_with fail
                go_ret2
                exact ⟨⟨0, mn, sl, HGG.out, .inr ⟨rfl, j, 14, .inr ⟨HA1.out, .inl ⟨j, hlt, by rw [HX.out, HSB.out, HTR.out]; rfl, HA.out, rfl, rfl⟩⟩, rfl⟩⟩, (HBT _).out⟩
              · have HTR := Lib.hid htr
                clear htr
                go_wp2_with (refine wp_add _ rfl _ _ _ rfl wm.heap.size j (seenS (sl.take j)) rfl (HS.out.alloc _) (by omega) k rfl rfl ⟨by omega, by omega⟩ (fun w5 hs5' hg5 => ?_))
                have HH : ∀ i (hi : i < sl.length), i < j + 1 → siteBad l sl[i] = false := fun i hi hij => by
                  by_cases hij2 : i < j
                  · exact HA.out i hi hij2
                  · obtain rfl : i = j := by omega
                    rw [HX.out, HSB.out, HTR.out]; rfl
                exact ⟨⟨j + 1, by omega, by go_num, HH, (HB.out.alloc (by omega) _).grown hg5 (by simp; omega) (fun z hz => by cases hz; exact Nat.le_refl _), by rw [seenS_take hlt, HX.out, HK.out]; exact hs5'⟩, by simp [intOf]; omega⟩
            · have hge : decide (l.length ≤ k) = true := decide_eq_true (by omega)
              clear HCW
              go_wp2_with fail
              go_ret2
              exact ⟨⟨0, mn, sl, HGG.out, .inr ⟨rfl, j, 14, .inr ⟨HA1.out, .inl ⟨j, hlt, by rw [HX.out]; unfold siteBad; rw [HK.out]; simp; left; omega, HA.out, rfl, rfl⟩⟩, rfl⟩⟩, (HBT _).out⟩
          · obtain rfl : j = sl.length := by omega
            obtain ⟨wt, hwt⟩ : ∃ wt, wt = wr := ⟨_, rfl⟩
            subst hwt
            have HS2 : Hid (SetAt wt wm.heap.size sl.length (seenS sl)) := by have := HS.out; rwa [List.take_length] at this
            have HBW2 : Hid (Below w.heap.size w wt) := HBW0.out.trans (HB.out.mono (by omega))
            have HA2 := Lib.hid HA.out
            clear HS HA HCW hbel
            have hs8 : w.heap.size < wt.heap.size := by omega
            go_wp2_with fail
            go_loopw [79] (fun i wr => ∃ j : Nat, j ≤ l.length ∧ i = .int .i64 j ∧ (∀ i (hi : i < l.length), i < j → unsited sl i l[i] = false) ∧ Below wt.heap.size wt wr) (fun i _ => l.length - (intOf i).toNat)
            case atStart => exact ⟨0, by omega, rfl, fun i _ h => absurd h (by omega), Below.refl _ _⟩
            case round =>
              obtain ⟨j, hj, rfl, hall, hbel⟩ := hrel
              have HB3 := Lib.hid hbel
              have HA := Lib.hid hall
              clear hall
              have hs9 : wt.heap.size ≤ wr.heap.size := hbel.size
              by_cases hlt : j < l.length
              · obtain ⟨d0, d1, d2, d3, d4⟩ := HC.out j hlt
                have hcl : ∀ p : Addr, p.block < w.heap.size → wr.cell? p = w.cell? p := fun p hp => by
                  rw [hbel.cell (by omega), HBW2.out.cell (by omega)]
                rw [← hcl ⟨b, off + j * 5, none⟩ hb] at d0
                rw [← hcl ⟨b, off + j * 5 + 1, none⟩ hb] at d1
                rw [← hcl ⟨b, off + j * 5 + 2, none⟩ hb] at d2
                rw [← hcl ⟨b, off + j * 5 + 3, none⟩ hb] at d3
                rw [← hcl ⟨b, off + j * 5 + 4, none⟩ hb] at d4
                clear hcl hbel
                obtain ⟨x, hx⟩ : ∃ x, l[j] = x := ⟨_, rfl⟩
                rw [hx] at d0 d1 d2 d3 d4
                have HX := Lib.hid hx
                clear hx
                have HSW : Hid (SetAt wr wm.heap.size sl.length (seenS sl)) := HS2.out.kept (row := none) ⟨HB3.out.os, HB3.out.tape, HB3.out.output, HB3.out.size, fun k hk _ => HB3.out.block k hk⟩ (by simp)
                obtain ⟨sd, hsd⟩ : ∃ sd, seenS sl j = sd := ⟨_, rfl⟩
                have HSD := Lib.hid hsd
                have hlk := fun o => (HSW.out.alloc o).look_ok (x := j) ⟨by omega, by omega⟩
                rw [hsd] at hlk
                clear hsd
                go_wp2_with fail
                refine (traps_any x.op _).mono ?_
                rintro e w3 ⟨rfl, rfl⟩
                have HBT : ∀ o o', Hid (Below w.heap.size w ((wr.alloc o).alloc o')) := fun o o' => ((HBW2.out.trans (HB3.out.mono (by omega))).alloc (by omega) _).alloc (by simp; omega) _
                have HBN : ∀ o o', Hid (Below wt.heap.size wt ((wr.alloc o).alloc o')) := fun o o' => (HB3.out.alloc (by omega) _).alloc (by simp; omega) _
                have HNX : ∀ (_ : unsited sl j x = false), ∀ i (hi : i < l.length), i < j + 1 → unsited sl i l[i] = false := fun h i hi hij => by
                  by_cases hij2 : i < j
                  · exact HA.out i hi hij2
                  · obtain rfl : i = j := by omega
                    rw [HX.out]; exact h
                have HUN : Hid (unsited sl j x = (trapsB x.op && !sd)) := by show _ = _; unfold unsited; rw [HSD.out]
                have HNX := Lib.hid HNX
                obtain ⟨tr, htr⟩ : ∃ tr, trapsB x.op = tr := ⟨_, rfl⟩
                rw [htr] at HUN ⊢
                clear htr hlk
                cases tr
                · go_wp2_with fail
                  exact ⟨⟨j + 1, by omega, by go_num, HNX.out (by rw [HUN.out]; rfl), (HBN _ _).out⟩, by simp [intOf]; omega⟩
                · cases sd
                  · go_wp2_with fail
                    go_ret2
                    exact ⟨⟨0, mn, sl, HGG.out, .inr ⟨rfl, j, 14, .inr ⟨HA1.out, .inr ⟨HA2.out, .inl ⟨j, hlt, by rw [HX.out, HUN.out]; rfl, HA.out, rfl, rfl⟩⟩⟩, rfl⟩⟩, (HBT _ _).out⟩
                  · go_wp2_with fail
                    exact ⟨⟨j + 1, by omega, by go_num, HNX.out (by rw [HUN.out]; rfl), (HBN _ _).out⟩, by simp [intOf]; omega⟩
              · obtain rfl : j = l.length := by omega
                go_wp2_with fail
                go_ret2
                exact ⟨⟨0, mn, sl, HGG.out, .inr ⟨rfl, 0, 0, .inr ⟨HA1.out, .inr ⟨HA2.out, .inr ⟨HA.out, rfl, rfl⟩⟩⟩, rfl⟩⟩, HBW2.out.trans (HB3.out.mono (by omega))⟩
  · go_wp2_with fail
    go_ret2
    exact ⟨⟨er, mn, sl, HGG.out, .inl ⟨her, rfl⟩⟩, ((Below.refl _ _).alloc (Nat.le_refl _) _).trans ((HB1.out.mono (by simp)).alloc (by omega) _)⟩
end Go.Proofs.YtnanlkoldloolaaDoor

/- Vet: an image looked at, whole. -/
namespace Go.Proofs.YtnanlkoldloolaaDoor
open Go.RowKit

/-- What 'Check' answers; Good tells what the reader of the debug information gave. -/
def CheckIs (l : List W) (el : List (Int × Int)) (m : Int) (Good : Int → Nat → List (Int × Int) → Prop) (at' er : Int) : Prop :=
  ((l.length = 0 ∨ 262144 < l.length) ∧ at' = 0 ∧ er = 2) ∨
  ((0 < l.length ∧ l.length ≤ 262144) ∧
    (((m < 0 ∨ (el.length : Int) ≤ m) ∧ at' = 0 ∧ er = 1) ∨
     ((0 ≤ m ∧ m < el.length) ∧ ∃ most a1 e1, EntriesIs l.length el most a1 e1 ∧
       ((e1 ≠ 0 ∧ at' = a1 ∧ er = e1) ∨
        (e1 = 0 ∧ ∃ a2 e2, WordsIs l.length el.length most l a2 e2 ∧
          ((e2 ≠ 0 ∧ at' = a2 ∧ er = e2) ∨
           (e2 = 0 ∧ ∃ de mn sl, Good de mn sl ∧ ((de ≠ 0 ∧ at' = 0 ∧ er = 4) ∨ (de = 0 ∧ DebugIs l mn sl at' er)))))))))

set_option maxRecDepth 100000 in
set_option maxHeartbeats 8000000 in
theorem check_any (wv : Value) (l : List W) (ev : Value) (el : List (Int × Int)) (m : Int) (pa : Option Addr) (pn pc : Nat) (w : World) (hv : RdW w wv l) (hev : RdE w ev el)
   (Good : Int → Nat → List (Int × Int) → Prop) (hgood : ∀ mn sl, Good 0 mn sl → ∀ s ∈ sl, 0 ≤ s.1 ∧ s.1 ≤ 2147483647)
   (HD : ∀ W : World, Below w.heap.size w W → Calls Tryd.prog 27 #[.slice pa pn pc] W fun e w' => (∃ sa sn sc ma mn mc tv sl er, e = .returned (.tuple #[.agg #[.slice sa sn sc, .slice ma mn mc, tv], .int .i64 er]) ∧ RdE w' tv sl ∧ Good er mn sl) ∧ Below W.heap.size W w') :
   Calls Tryd.prog 10 #[.agg #[wv, ev, .int .i64 m, .slice pa pn pc]] w fun e w' => (∃ at' er, CheckIs l el m Good at' er ∧ e = .returned (.tuple #[.int .i64 at', .int .i64 er])) ∧ Below w.heap.size w w' := by
  have hl9 : l.length ≤ 9223372036854775807 := Rd.le hv
  have he9 : el.length ≤ 9223372036854775807 := Rd.le hev
  obtain ⟨wa, wc, rfl⟩ := Rd.shape hv
  obtain ⟨ea, ec, rfl⟩ := Rd.shape hev
  have HV := Lib.hid hv
  have HE := Lib.hid hev
  have HHD := Lib.hid HD
  have HG := Lib.hid hgood
  clear hv hev HD hgood
  go_enter Tryd.func10, Tryd.ntmps10
  have HBA : ∀ o, Hid (Below w.heap.size w (w.alloc o)) := fun o => (Below.refl _ _).alloc (Nat.le_refl _) o
  by_cases h0 : l.length < 1
  · go_wp2_with fail
    go_ret2
    exact ⟨⟨0, 2, .inl ⟨by omega, rfl, rfl⟩, rfl⟩, (HBA _).out⟩
  · by_cases h1 : 262144 < l.length
    · go_wp2_with fail
      go_ret2
      exact ⟨⟨0, 2, .inl ⟨by omega, rfl, rfl⟩, rfl⟩, (HBA _).out⟩
    · by_cases h2 : m < 0
      · go_wp2_with fail
        go_ret2
        exact ⟨⟨0, 1, .inr ⟨by omega, .inl ⟨by omega, rfl, rfl⟩⟩, rfl⟩, (HBA _).out⟩
      · by_cases h3 : (el.length : Int) ≤ m
        · go_wp2_with fail
          go_ret2
          exact ⟨⟨0, 1, .inr ⟨by omega, .inl ⟨by omega, rfl, rfl⟩⟩, rfl⟩, (HBA _).out⟩
        · go_wp2_with fail
          refine (entries_any _ el wa l.length wc m pa pn pc _ (Rd.alloc HE.out _)).mono ?_
          rintro e w1 ⟨⟨most, a1, e1, hent, rfl⟩, hb1⟩
          have HEN := Lib.hid hent
          have hs1 : w.heap.size + 1 ≤ w1.heap.size := by have := hb1.size; simpa using this
          have hs2 : w.heap.size < w1.heap.size := by omega
          have k0 : w1.cell? ⟨w.heap.size, 0, none⟩ = some (.slice wa l.length wc) := by rw [hb1.cell (by simp)]; simp
          have k1 : w1.cell? ⟨w.heap.size, 1, none⟩ = some (.slice ea el.length ec) := by rw [hb1.cell (by simp)]; simp
          have k2 : w1.cell? ⟨w.heap.size, 2, none⟩ = some (.int .i64 m) := by rw [hb1.cell (by simp)]; simp
          have k3 : w1.cell? ⟨w.heap.size, 3, none⟩ = some (.slice pa pn pc) := by rw [hb1.cell (by simp)]; simp
          have HB1 : Hid (Below w.heap.size w w1) := ((Below.refl _ _).alloc (Nat.le_refl _) _).trans (hb1.mono (by simp))
          clear hb1 hent
          by_cases he1 : e1 = 0
          · subst he1
            go_wp2_with fail
            refine (words_any _ l ea el.length ec m pa pn pc most _ (Rd.later HV.out HB1.out) (by omega) (by omega)).mono ?_
            rintro e w2 ⟨⟨a2, e2, hwo, rfl⟩, hb2⟩
            obtain ⟨hc2, hf2⟩ := bcell hb2
            have y0 : w2.cell? ⟨w.heap.size, 0, none⟩ = some (.slice wa l.length wc) := (hc2 _ _ (by omega)).trans k0
            have y1 : w2.cell? ⟨w.heap.size, 1, none⟩ = some (.slice ea el.length ec) := (hc2 _ _ (by omega)).trans k1
            have y2 : w2.cell? ⟨w.heap.size, 2, none⟩ = some (.int .i64 m) := (hc2 _ _ (by omega)).trans k2
            have y3 : w2.cell? ⟨w.heap.size, 3, none⟩ = some (.slice pa pn pc) := (hc2 _ _ (by omega)).trans k3
            have hs3 := hb2.size
            have hs4 : w.heap.size < w2.heap.size := by omega
            have HWO := Lib.hid hwo
            have HB2 : Hid (Below w.heap.size w w2) := HB1.out.trans (hb2.mono (by omega))
            clear k0 k1 k2 k3 hb2 hc2 hf2 hwo
            by_cases he2 : e2 = 0
            · subst he2
              go_wp2_with fail
              refine (debug_any _ l ea el.length ec m pa pn pc _ (Rd.later HV.out HB2.out) (by omega) (by omega) Good HG.out (fun W hW => HHD.out W (HB2.out.trans (hW.mono (by omega))))).mono ?_
              rintro e w3 ⟨⟨de, mn, sl, hG, hh⟩, hb3⟩
              have HB3 : Hid (Below w.heap.size w w3) := HB2.out.trans (hb3.mono (by omega))
              have HGG := Lib.hid hG
              clear hb3 hG y0 y1 y2 y3
              rcases hh with ⟨hde, rfl⟩ | ⟨rfl, a3, f3, hdb, rfl⟩
              · go_wp2_with fail
                go_ret2
                exact ⟨⟨0, 4, .inr ⟨by omega, .inr ⟨by omega, most, a1, 0, HEN.out, .inr ⟨rfl, a2, 0, HWO.out, .inr ⟨rfl, de, mn, sl, HGG.out, .inl ⟨hde, rfl, rfl⟩⟩⟩⟩⟩, rfl⟩, HB3.out⟩
              · have HDB := Lib.hid hdb
                clear hdb
                go_wp2_with fail
                go_ret2
                exact ⟨⟨a3, f3, .inr ⟨by omega, .inr ⟨by omega, most, a1, 0, HEN.out, .inr ⟨rfl, a2, 0, HWO.out, .inr ⟨rfl, 0, mn, sl, HGG.out, .inr ⟨rfl, HDB.out⟩⟩⟩⟩⟩, rfl⟩, HB3.out⟩
            · go_wp2_with fail
              go_ret2
              exact ⟨⟨a2, e2, .inr ⟨by omega, .inr ⟨by omega, most, a1, 0, HEN.out, .inr ⟨rfl, a2, e2, HWO.out, .inl ⟨he2, rfl, rfl⟩⟩⟩⟩, rfl⟩, HB2.out⟩
          · go_wp2_with fail
            go_ret2
            exact ⟨⟨a1, e1, .inr ⟨by omega, .inr ⟨by omega, most, a1, e1, HEN.out, .inl ⟨he1, rfl, rfl⟩⟩⟩, rfl⟩, HB1.out⟩
end Go.Proofs.YtnanlkoldloolaaDoor

/- Vet: what the law's images are; the document's examples. -/
namespace Go.Proofs.YtnanlkoldloolaaDoor
open Go.RowKit

/-! ### the plain law of 'CheckIs' -/
theorem entries_good {nw : Nat} {l : List (Int × Int)} {most a e : Int} (h : EntriesIs nw l most a e) (hall : ∀ x ∈ l, entBad nw x = false) : most = mostE l ∧ a = 0 ∧ e = 0 := by
  rcases h with ⟨j, hj, hb, _⟩ | ⟨_, h1, h2, h3⟩
  · rw [hall _ (List.getElem_mem hj)] at hb; cases hb
  · exact ⟨h1, h2, h3⟩
theorem words_good {nw ne s : Int} {l : List W} {a e : Int} (h : WordsIs nw ne s l a e) (hall : ∀ x ∈ l, wordE nw ne s x = 0) (h0 : 0 < l.length) (hlast : (l[l.length - 1]'(by omega)).op = 45 ∨ (l[l.length - 1]'(by omega)).op = 47) : a = 0 ∧ e = 0 := by
  rcases h with ⟨j, hj, hb, _⟩ | ⟨_, _, h2⟩
  · exact absurd (hall _ (List.getElem_mem hj)) hb
  · rw [if_pos hlast] at h2; exact h2
theorem words_bad {nw ne s : Int} {l : List W} {a e : Int} (h : WordsIs nw ne s l a e) {k : Nat} (hk : k < l.length) (hall : ∀ i (hi : i < l.length), i < k → wordE nw ne s l[i] = 0) (hb : wordE nw ne s l[k] ≠ 0) : a = k ∧ e = wordE nw ne s l[k] := by
  rcases h with ⟨j, hj, h1, h2, h3, h4⟩ | ⟨h1, _⟩
  · have : j = k := by
      rcases Nat.lt_trichotomy j k with h | h | h
      · exact absurd (hall j hj h) h1
      · exact h
      · exact absurd (h2 k hk h) hb
    subst this
    exact ⟨h3, h4⟩
  · exact absurd (h1 _ (List.getElem_mem hk)) hb
theorem debug_good {l : List W} {a e : Int} (h : DebugIs l 0 [] a e) (hall : ∀ x ∈ l, x.op ≠ 44 ∧ trapsB x.op = false) : a = 0 ∧ e = 0 := by
  rcases h with ⟨j, hj, h1, _⟩ | ⟨_, ⟨j, hj, _⟩ | ⟨_, ⟨j, hj, h1, _⟩ | ⟨_, h1, h2⟩⟩⟩
  · have := (hall _ (List.getElem_mem hj)).1
    simp [markBad, this] at h1
  · simp at hj
  · have := (hall _ (List.getElem_mem hj)).2
    simp [unsited, this] at h1
  · exact ⟨h1, h2⟩

abbrev GoodNone (er : Int) (mn : Nat) (sl : List (Int × Int)) : Prop := er = 0 ∧ mn = 0 ∧ sl = []
theorem check_good {l : List W} {el : List (Int × Int)} {m a e : Int} (h : CheckIs l el m GoodNone a e) (hl : 0 < l.length ∧ l.length ≤ 262144) (hm : 0 ≤ m ∧ m < el.length)
    (he : ∀ x ∈ el, entBad l.length x = false) (hw : ∀ x ∈ l, wordE l.length el.length (mostE el) x = 0) (hlast : (l[l.length - 1]'(by omega)).op = 45 ∨ (l[l.length - 1]'(by omega)).op = 47)
    (hq : ∀ x ∈ l, x.op ≠ 44 ∧ trapsB x.op = false) : a = 0 ∧ e = 0 := by
  rcases h with ⟨h, _⟩ | ⟨_, ⟨h, _⟩ | ⟨_, most, a1, e1, h1, h2⟩⟩
  · omega
  · omega
  · obtain ⟨rfl, -, rfl⟩ := entries_good h1 he
    rcases h2 with ⟨h, _⟩ | ⟨_, a2, e2, h3, h4⟩
    · exact absurd rfl h
    · obtain ⟨rfl, rfl⟩ := words_good h3 hw hl.1 hlast
      rcases h4 with ⟨h, _⟩ | ⟨_, de, mn, sl, ⟨rfl, rfl, rfl⟩, ⟨h, _⟩ | ⟨_, h5⟩⟩
      · exact absurd rfl h
      · exact absurd rfl h
      · exact debug_good h5 hq
theorem check_word {l : List W} {el : List (Int × Int)} {m a e : Int} {Good : Int → Nat → List (Int × Int) → Prop} (h : CheckIs l el m Good a e) (hl : 0 < l.length ∧ l.length ≤ 262144) (hm : 0 ≤ m ∧ m < el.length)
    (he : ∀ x ∈ el, entBad l.length x = false) {k : Nat} (hk : k < l.length) (hw : ∀ i (hi : i < l.length), i < k → wordE l.length el.length (mostE el) l[i] = 0) (hb : wordE l.length el.length (mostE el) l[k] ≠ 0) : a = k ∧ e = wordE l.length el.length (mostE el) l[k] := by
  rcases h with ⟨h, _⟩ | ⟨_, ⟨h, _⟩ | ⟨_, most, a1, e1, h1, h2⟩⟩
  · omega
  · omega
  · obtain ⟨rfl, -, rfl⟩ := entries_good h1 he
    rcases h2 with ⟨h, _⟩ | ⟨_, a2, e2, h3, h4⟩
    · exact absurd rfl h
    · obtain ⟨rfl, rfl⟩ := words_bad h3 hk hw hb
      rcases h4 with ⟨_, h5, h6⟩ | ⟨h, _⟩
      · exact ⟨h5, h6⟩
      · exact absurd h hb

theorem gives_below {w w' : World} {gt : TypeId} {gv : Value} (h : Gives w gt gv) (hb : Below w.heap.size w w') : Gives w' gt gv := by
  unfold Gives
  rw [hb.cell (p := ⟨0, 0, none⟩) (World.block_lt_of_cell? w _ h)]; exact h

/-- Decode at the bytes of nothing, as 'Check' asks it. -/
theorem decode_none {w : World} {pa : Option Addr} {pc : Nat} (hp : RdB w (.slice pa 7 pc) nothL) {gt : TypeId} {gv : Value} (hg : Gives w gt gv) : ∀ W : World, Below w.heap.size w W → Calls Tryd.prog 27 #[.slice pa 7 pc] W fun e w' => (∃ sa sn sc ma mn mc tv sl er, e = .returned (.tuple #[.agg #[.slice sa sn sc, .slice ma mn mc, tv], .int .i64 er]) ∧ RdE w' tv sl ∧ GoodNone er mn sl) ∧ Below W.heap.size W w' := by
  intro W hW
  refine (decode_empty pa pc W (Rd.later hp hW) gt gv ?_).mono ?_
  · unfold Gives
    rw [hW.cell (p := ⟨0, 0, none⟩) (World.block_lt_of_cell? w _ hg)]; exact hg
  · rintro e w' ⟨rfl, hb⟩
    exact ⟨⟨_, _, _, _, _, _, _, _, _, rfl, (show RdE w' (.slice none 0 0) [] from Rd.nil _ _), rfl, rfl, rfl⟩, hb⟩

abbrev littleL : List W := [⟨30, 0, 0, 0, 7⟩, ⟨47, 0, 0, 0, 0⟩]

set_option maxRecDepth 100000 in
set_option maxHeartbeats 4000000 in
theorem little_any (w : World) :
   Calls Tryd.prog 16 #[] w fun e w' => (∃ wb eb pa pc, e = .returned (.agg #[.slice (some ⟨wb, 0, none⟩) 2 2, .slice (some ⟨eb, 0, none⟩) 1 1, .int .i64 0, .slice pa 7 pc]) ∧ RdW w' (.slice (some ⟨wb, 0, none⟩) 2 2) littleL ∧ RdE w' (.slice (some ⟨eb, 0, none⟩) 1 1) [(0, 0)] ∧ RdB w' (.slice pa 7 pc) nothL) ∧ Below w.heap.size w w' := by
  have HE := Lib.hid encode_empty
  go_enter Tryd.func16, Tryd.ntmps16
  go_wp2_with fail
  obtain ⟨W, hW⟩ : ∃ W, W = (((w.alloc (.cells #[.slice none 0 0, .slice none 0 0, .int .i64 0, .slice none 0 0] 26)).alloc (.cells #[.int .u8 30, .int .u8 0, .int .u8 0, .int .u8 0, .int .i64 7, .int .u8 47, .int .u8 0, .int .u8 0, .int .u8 0, .int .i64 0] 47)).alloc (.cells #[.int .i64 0, .int .i64 0] 55)) := ⟨_, rfl⟩
  have HW := Lib.hid hW
  rw [← hW]
  refine (HE.out W).mono ?_
  rintro e w1 ⟨⟨v, rfl, hv⟩, hb⟩
  obtain ⟨va, vc, rfl⟩ := hv.rd.shape
  have hz : W.heap.size = w.heap.size + 1 + 1 + 1 := by rw [hW]; simp
  have h0 : w1.heap[w.heap.size]? = some (.cells #[.slice none 0 0, .slice none 0 0, .int .i64 0, .slice none 0 0] 26) := heap_below hb (by omega) (by rw [hW]; exact heap_old _ _ (heap_old _ _ (heap_new _ _ rfl)))
  have h1 : w1.heap[w.heap.size + 1]? = some (.cells #[.int .u8 30, .int .u8 0, .int .u8 0, .int .u8 0, .int .i64 7, .int .u8 47, .int .u8 0, .int .u8 0, .int .u8 0, .int .i64 0] 47) := heap_below hb (by omega) (by rw [hW]; exact heap_old _ _ (heap_new _ _ (by simp)))
  have h2 : w1.heap[w.heap.size + 1 + 1]? = some (.cells #[.int .i64 0, .int .i64 0] 55) := heap_below hb (by omega) (by rw [hW]; exact heap_new _ _ (by simp))
  have HB : Hid (Below w.heap.size w w1) := by
    refine Below.trans ?_ (hb.mono (by omega))
    rw [hW]
    exact (((Below.refl _ _).alloc (Nat.le_refl _) _).alloc (by simp) _).alloc (by simp; omega) _
  have c0 : w1.cell? ⟨w.heap.size, 0, none⟩ = some (.slice none 0 0) := by simp [World.cell?, h0]
  have c1 : w1.cell? ⟨w.heap.size, 1, none⟩ = some (.slice none 0 0) := by simp [World.cell?, h0]
  have c2 : w1.cell? ⟨w.heap.size, 2, none⟩ = some (.int .i64 0) := by simp [World.cell?, h0]
  have c3 : w1.cell? ⟨w.heap.size, 3, none⟩ = some (.slice none 0 0) := by simp [World.cell?, h0]
  have z0 : ∀ i, w1.frozen? ⟨w.heap.size, i, none⟩ = false := by intro i; simp [World.frozen?, h0]
  have HV := Lib.hid hv
  have H1 := Lib.hid h1
  have H2 := Lib.hid h2
  clear hW hb hv h0 h1 h2 HE hz
  go_wp2_with fail
  refine bodyPost_ret (v := .agg #[.slice (some ⟨w.heap.size + 1, 0, none⟩) 2 2, .slice (some ⟨w.heap.size + 1 + 1, 0, none⟩) 1 1, .int .i64 0, .slice va 7 vc]) ?_ rfl ⟨⟨_, _, _, _, rfl, ?_, ?_, ?_⟩, ?_⟩
  · simp [results, Tryd.results16, go_sem, c0, c1, c2, c3]
  · exact Rd.of_heap (xs := cW littleL) (((Below.heap_setCell _ _ _ _ (by simp)).trans ((Below.heap_setCell _ _ _ _ (by simp)).trans ((Below.heap_setCell _ _ _ _ (by simp)).trans (Below.heap_setCell _ _ _ _ (by simp))))).trans H1.out) rfl rfl (by unfold maxLen; simp)
  · exact Rd.of_heap (xs := cE [(0, 0)]) (((Below.heap_setCell _ _ _ _ (by simp; omega)).trans ((Below.heap_setCell _ _ _ _ (by simp; omega)).trans ((Below.heap_setCell _ _ _ _ (by simp; omega)).trans (Below.heap_setCell _ _ _ _ (by simp; omega))))).trans H2.out) rfl rfl (by unfold maxLen; simp)
  · have hne : (Value.slice va 7 vc).ownBlock ≠ some w.heap.size := fun h => by
      have := (ownG_blk HV.out _ h).1
      rw [HW.out] at this
      simp at this
      omega
    exact Rd.same HV.out.rd (fun k hk => by
      have hk2 : k ≠ w.heap.size := fun e => hne (by rw [← e]; exact hk)
      exact (Below.heap_setCell _ _ _ _ hk2).trans ((Below.heap_setCell _ _ _ _ hk2).trans ((Below.heap_setCell _ _ _ _ hk2).trans (Below.heap_setCell _ _ _ _ hk2))))
  · exact (((HB.out.setCell (Nat.le_refl _) _).setCell (Nat.le_refl _) _).setCell (Nat.le_refl _) _).setCell (by simp) _

theorem little_good : ∀ a e, CheckIs littleL [(0, 0)] 0 GoodNone a e → a = 0 ∧ e = 0 := fun a e h =>
  check_good h (by decide) (by decide) (by decide) (by decide) (by decide) (by decide)
theorem jump_bad : ∀ a e, CheckIs [⟨30, 0, 0, 0, 7⟩, ⟨45, 0, 0, 0, 9⟩, ⟨47, 0, 0, 0, 0⟩] [(0, 0)] 0 GoodNone a e → a = 1 ∧ e = 17 := fun a e h => by
  have := check_word h (by decide) (by decide) (by decide) (k := 1) (by decide) (by decide) (by decide)
  exact this

set_option maxRecDepth 100000 in
set_option maxHeartbeats 4000000 in
theorem awake_any (w : World) (gt : TypeId) (gv : Value) (hg : Gives w gt gv) :
   Calls Tryd.prog 7 #[] w fun e w' => e = .returned (.bool true) ∧ Below w.heap.size w w' := by
  have HL := Lib.hid little_any
  have HG := Lib.hid hg
  clear hg
  go_enter Tryd.func7, Tryd.ntmps7
  go_wp2_with fail
  refine (HL.out _).mono ?_
  rintro e w1 ⟨⟨wb, eb, pa, pc, rfl, hw1, he1, hp1⟩, hb1⟩
  have G1 : Hid (Gives w1 gt gv) := by
    show Gives w1 gt gv
    unfold Gives; rw [hb1.cell (p := ⟨0, 0, none⟩) (World.block_lt_of_cell? w _ HG.out)]; exact HG.out
  have HC := Lib.hid (check_any _ littleL _ [(0, 0)] 0 pa 7 pc w1 hw1 he1 GoodNone (fun mn sl h => by rw [h.2.2]; simp) (decode_none hp1 G1.out))
  have HB1 := Lib.hid hb1
  clear hw1 he1 hp1 hb1
  go_wp2_with fail
  refine HC.out.mono ?_
  rintro e w2 ⟨⟨a, er, hc, rfl⟩, hb2⟩
  obtain ⟨rfl, rfl⟩ := little_good _ _ hc
  have HB2 := Lib.hid (HB1.out.trans (hb2.mono HB1.out.size))
  clear hc hb2 HC
  go_wp2_with fail
  refine (HL.out _).mono ?_
  rintro e w3 ⟨⟨wb3, eb3, pa3, pc3, rfl, hw3, he3, hp3⟩, hb3⟩
  have HB3 := Lib.hid (HB2.out.trans (hb3.mono HB2.out.size))
  have HE3 := Lib.hid he3
  have HP3 := Lib.hid hp3
  rcases hw3.split with ⟨_, _, _, h⟩ | ⟨b, off, c, hv, -, -, -, hbl, hcell⟩
  · cases h
  simp only [Value.slice.injEq, Option.some.injEq, Addr.mk.injEq] at hv
  obtain ⟨⟨rfl, rfl, -⟩, -, rfl⟩ := hv
  obtain ⟨d0, d1, d2, d3, d4⟩ := hcell 0 (by simp)
  obtain ⟨f0, f1, f2, f3, f4⟩ := hcell 1 (by simp)
  simp at d0 d1 d2 d3 d4 f0 f1 f2 f3 f4
  clear hb3 he3 hp3 hw3 hcell
  go_wp2_with fail
  go_region
  obtain ⟨W, hW⟩ : ∃ W, W = (((w3.alloc (.cells #[.slice (some ⟨w3.heap.size + 1, 0, none⟩) 3 3, .slice (some ⟨eb3, 0, none⟩) 1 1, .int .i64 0, .slice pa3 7 pc3] 26)).alloc (.cells #[.int .u8 30, .int .u8 0, .int .u8 0, .int .u8 0, .int .i64 7, .int .u8 45, .int .u8 0, .int .u8 0, .int .u8 0, .int .i64 9, .int .u8 47, .int .u8 0, .int .u8 0, .int .u8 0, .int .i64 0] 47)).drew) := ⟨_, rfl⟩
  rw [← hW]
  have hBW : Below w3.heap.size w3 W := by rw [hW]; exact (((Below.refl _ _).alloc (Nat.le_refl _) _).alloc (by simp) _).drew
  have hWh : W.heap[w3.heap.size]? = some (.cells #[.slice (some ⟨w3.heap.size + 1, 0, none⟩) 3 3, .slice (some ⟨eb3, 0, none⟩) 1 1, .int .i64 0, .slice pa3 7 pc3] 26) := by
    rw [hW]; exact heap_old _ _ (heap_new _ _ rfl)
  have hWh2 : W.heap[w3.heap.size + 1]? = some (.cells #[.int .u8 30, .int .u8 0, .int .u8 0, .int .u8 0, .int .i64 7, .int .u8 45, .int .u8 0, .int .u8 0, .int .u8 0, .int .i64 9, .int .u8 47, .int .u8 0, .int .u8 0, .int .u8 0, .int .i64 0] 47) := by
    rw [hW]; exact heap_new _ _ (by simp)
  have c0 : W.cell? ⟨w3.heap.size, 0, none⟩ = some (.slice (some ⟨w3.heap.size + 1, 0, none⟩) 3 3) := by simp [World.cell?, hWh]
  have c1 : W.cell? ⟨w3.heap.size, 1, none⟩ = some (.slice (some ⟨eb3, 0, none⟩) 1 1) := by simp [World.cell?, hWh]
  have c2 : W.cell? ⟨w3.heap.size, 2, none⟩ = some (.int .i64 0) := by simp [World.cell?, hWh]
  have c3 : W.cell? ⟨w3.heap.size, 3, none⟩ = some (.slice pa3 7 pc3) := by simp [World.cell?, hWh]
  have G3 : Gives W gt gv := gives_below HG.out (HB3.out.trans (hBW.mono HB3.out.size))
  have HC := Lib.hid (check_any (.slice (some ⟨w3.heap.size + 1, 0, none⟩) 3 3) [⟨30, 0, 0, 0, 7⟩, ⟨45, 0, 0, 0, 9⟩, ⟨47, 0, 0, 0, 0⟩] _ [(0, 0)] 0 pa3 7 pc3 W (Rd.of_heap hWh2 rfl rfl (by unfold maxLen; simp)) (Rd.later HE3.out hBW) GoodNone (fun mn sl h => by rw [h.2.2]; simp) (decode_none (Rd.later HP3.out hBW) G3))
  have HBW := Lib.hid (HB3.out.trans (hBW.mono HB3.out.size))
  clear hW hBW hWh hWh2 G3
  go_wp2_with fail
  refine HC.out.mono ?_
  rintro e w4 ⟨⟨a, er, hc, rfl⟩, hb4⟩
  obtain ⟨rfl, rfl⟩ := jump_bad _ _ hc
  have HB4 := Lib.hid (HBW.out.trans (hb4.mono HBW.out.size))
  clear hc hb4 HC c0 c1 c2 c3
  go_wp2_with fail
  go_ret
  exact ⟨rfl, HB4.out⟩
end Go.Proofs.YtnanlkoldloolaaDoor
