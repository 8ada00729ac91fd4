/- Vet: an image looked at, whole. -/
import Derived.Test.YtnanlkoldloolaaDoorEm
namespace Go.Proofs.YtnanlkoldloolaaDoor
open Go.RowKit

/-- What 'Check' answers; Good tells what the reader of the debug information gave. -/
def CheckIs (l : List W) (el : List (Int × Int)) (m : Int) (Good : Int → Nat → List (Int × Int) → Prop) (at' er : Int) : Prop :=
  ((l.length = 0 ∨ 262144 < l.length) ∧ at' = 0 ∧ er = 2) ∨
  ((0 < l.length ∧ l.length ≤ 262144) ∧
    (((m < 0 ∨ (el.length : Int) ≤ m) ∧ at' = 0 ∧ er = 1) ∨
     ((0 ≤ m ∧ m < el.length) ∧ ∃ most a1 e1, EntriesIs l.length el most a1 e1 ∧
       ((e1 ≠ 0 ∧ at' = a1 ∧ er = e1) ∨
        (e1 = 0 ∧ ∃ a2 e2, WordsIs l.length el.length most l a2 e2 ∧
          ((e2 ≠ 0 ∧ at' = a2 ∧ er = e2) ∨
           (e2 = 0 ∧ ∃ de mn sl, Good de mn sl ∧ ((de ≠ 0 ∧ at' = 0 ∧ er = 4) ∨ (de = 0 ∧ DebugIs l mn sl at' er)))))))))

set_option maxRecDepth 100000 in
set_option maxHeartbeats 8000000 in
theorem check_any (wv : Value) (l : List W) (ev : Value) (el : List (Int × Int)) (m : Int) (pa : Option Addr) (pn pc : Nat) (w : World) (hv : RdW w wv l) (hev : RdE w ev el)
   (Good : Int → Nat → List (Int × Int) → Prop) (hgood : ∀ mn sl, Good 0 mn sl → ∀ s ∈ sl, 0 ≤ s.1 ∧ s.1 ≤ 2147483647)
   (HD : ∀ W : World, Below w.heap.size w W → Calls Tryd.prog 27 #[.slice pa pn pc] W fun e w' => (∃ sa sn sc ma mn mc tv sl er, e = .returned (.tuple #[.agg #[.slice sa sn sc, .slice ma mn mc, tv], .int .i64 er]) ∧ RdE w' tv sl ∧ Good er mn sl) ∧ Below W.heap.size W w') :
   Calls Tryd.prog 10 #[.agg #[wv, ev, .int .i64 m, .slice pa pn pc]] w fun e w' => (∃ at' er, CheckIs l el m Good at' er ∧ e = .returned (.tuple #[.int .i64 at', .int .i64 er])) ∧ Below w.heap.size w w' := by
  have hl9 : l.length ≤ 9223372036854775807 := Rd.le hv
  have he9 : el.length ≤ 9223372036854775807 := Rd.le hev
  obtain ⟨wa, wc, rfl⟩ := Rd.shape hv
  obtain ⟨ea, ec, rfl⟩ := Rd.shape hev
  have HV := Lib.hid hv
  have HE := Lib.hid hev
  have HHD := Lib.hid HD
  have HG := Lib.hid hgood
  clear hv hev HD hgood
  go_enter Tryd.func10, Tryd.ntmps10
  have HBA : ∀ o, Hid (Below w.heap.size w (w.alloc o)) := fun o => (Below.refl _ _).alloc (Nat.le_refl _) o
  by_cases h0 : l.length < 1
  · go_wp2_with fail
    go_ret2
    exact ⟨⟨0, 2, .inl ⟨by omega, rfl, rfl⟩, rfl⟩, (HBA _).out⟩
  · by_cases h1 : 262144 < l.length
    · go_wp2_with fail
      go_ret2
      exact ⟨⟨0, 2, .inl ⟨by omega, rfl, rfl⟩, rfl⟩, (HBA _).out⟩
    · by_cases h2 : m < 0
      · go_wp2_with fail
        go_ret2
        exact ⟨⟨0, 1, .inr ⟨by omega, .inl ⟨by omega, rfl, rfl⟩⟩, rfl⟩, (HBA _).out⟩
      · by_cases h3 : (el.length : Int) ≤ m
        · go_wp2_with fail
          go_ret2
          exact ⟨⟨0, 1, .inr ⟨by omega, .inl ⟨by omega, rfl, rfl⟩⟩, rfl⟩, (HBA _).out⟩
        · go_wp2_with fail
          refine (entries_any _ el wa l.length wc m pa pn pc _ (Rd.alloc HE.out _)).mono ?_
          rintro e w1 ⟨⟨most, a1, e1, hent, rfl⟩, hb1⟩
          have HEN := Lib.hid hent
          have hs1 : w.heap.size + 1 ≤ w1.heap.size := by have := hb1.size; simpa using this
          have hs2 : w.heap.size < w1.heap.size := by omega
          have k0 : w1.cell? ⟨w.heap.size, 0, none⟩ = some (.slice wa l.length wc) := by rw [hb1.cell (by simp)]; simp
          have k1 : w1.cell? ⟨w.heap.size, 1, none⟩ = some (.slice ea el.length ec) := by rw [hb1.cell (by simp)]; simp
          have k2 : w1.cell? ⟨w.heap.size, 2, none⟩ = some (.int .i64 m) := by rw [hb1.cell (by simp)]; simp
          have k3 : w1.cell? ⟨w.heap.size, 3, none⟩ = some (.slice pa pn pc) := by rw [hb1.cell (by simp)]; simp
          have HB1 : Hid (Below w.heap.size w w1) := ((Below.refl _ _).alloc (Nat.le_refl _) _).trans (hb1.mono (by simp))
          clear hb1 hent
          by_cases he1 : e1 = 0
          · subst he1
            go_wp2_with fail
            refine (words_any _ l ea el.length ec m pa pn pc most _ (Rd.later HV.out HB1.out) (by omega) (by omega)).mono ?_
            rintro e w2 ⟨⟨a2, e2, hwo, rfl⟩, hb2⟩
            obtain ⟨hc2, hf2⟩ := bcell hb2
            have y0 : w2.cell? ⟨w.heap.size, 0, none⟩ = some (.slice wa l.length wc) := (hc2 _ _ (by omega)).trans k0
            have y1 : w2.cell? ⟨w.heap.size, 1, none⟩ = some (.slice ea el.length ec) := (hc2 _ _ (by omega)).trans k1
            have y2 : w2.cell? ⟨w.heap.size, 2, none⟩ = some (.int .i64 m) := (hc2 _ _ (by omega)).trans k2
            have y3 : w2.cell? ⟨w.heap.size, 3, none⟩ = some (.slice pa pn pc) := (hc2 _ _ (by omega)).trans k3
            have hs3 := hb2.size
            have hs4 : w.heap.size < w2.heap.size := by omega
            have HWO := Lib.hid hwo
            have HB2 : Hid (Below w.heap.size w w2) := HB1.out.trans (hb2.mono (by omega))
            clear k0 k1 k2 k3 hb2 hc2 hf2 hwo
            by_cases he2 : e2 = 0
            · subst he2
              go_wp2_with fail
              refine (debug_any _ l ea el.length ec m pa pn pc _ (Rd.later HV.out HB2.out) (by omega) (by omega) Good HG.out (fun W hW => HHD.out W (HB2.out.trans (hW.mono (by omega))))).mono ?_
              rintro e w3 ⟨⟨de, mn, sl, hG, hh⟩, hb3⟩
              have HB3 : Hid (Below w.heap.size w w3) := HB2.out.trans (hb3.mono (by omega))
              have HGG := Lib.hid hG
              clear hb3 hG y0 y1 y2 y3
              rcases hh with ⟨hde, rfl⟩ | ⟨rfl, a3, f3, hdb, rfl⟩
              · go_wp2_with fail
                go_ret2
                exact ⟨⟨0, 4, .inr ⟨by omega, .inr ⟨by omega, most, a1, 0, HEN.out, .inr ⟨rfl, a2, 0, HWO.out, .inr ⟨rfl, de, mn, sl, HGG.out, .inl ⟨hde, rfl, rfl⟩⟩⟩⟩⟩, rfl⟩, HB3.out⟩
              · have HDB := Lib.hid hdb
                clear hdb
                go_wp2_with fail
                go_ret2
                exact ⟨⟨a3, f3, .inr ⟨by omega, .inr ⟨by omega, most, a1, 0, HEN.out, .inr ⟨rfl, a2, 0, HWO.out, .inr ⟨rfl, 0, mn, sl, HGG.out, .inr ⟨rfl, HDB.out⟩⟩⟩⟩⟩, rfl⟩, HB3.out⟩
            · go_wp2_with fail
              go_ret2
              exact ⟨⟨a2, e2, .inr ⟨by omega, .inr ⟨by omega, most, a1, 0, HEN.out, .inr ⟨rfl, a2, e2, HWO.out, .inl ⟨he2, rfl, rfl⟩⟩⟩⟩, rfl⟩, HB2.out⟩
          · go_wp2_with fail
            go_ret2
            exact ⟨⟨a1, e1, .inr ⟨by omega, .inr ⟨by omega, most, a1, e1, HEN.out, .inl ⟨he1, rfl, rfl⟩⟩⟩, rfl⟩, HB1.out⟩
end Go.Proofs.YtnanlkoldloolaaDoor
