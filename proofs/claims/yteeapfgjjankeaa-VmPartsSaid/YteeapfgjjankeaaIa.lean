/- Is an image small: the document's Few. (Turned from vet XFw.) -/
import Derived.Test.YteeapfgjjankeaaHb
namespace Go.Proofs.Yteeapfgjjankeaa.Mach
open Go.RowKit

def RdE (w : World) (v : Value) (l : List (Int × Int)) : Prop := Rd w 2 v l.length (entC l)
theorem RdE.split {w : World} {v : Value} {l : List (Int × Int)} (h : RdE w v l) :
    (∃ a c, v = .slice a 0 c ∧ l = []) ∨ ∃ b off c, v = .slice (some ⟨b, off, none⟩) l.length c ∧ 0 < l.length ∧ l.length ≤ c ∧ c ≤ 9223372036854775807 ∧ b < w.heap.size ∧
      ∀ j, (hj : j < l.length) → w.cell? ⟨b, off + j * 2, none⟩ = some (.int .i64 l[j].1) ∧ w.cell? ⟨b, off + j * 2 + 1, none⟩ = some (.int .i64 l[j].2) := by
  rcases Rd.split h (by omega) with ⟨a, c, rfl, h0, _⟩ | ⟨b, off, c, rfl, h1, h2, h3, h4, h5⟩
  · exact .inl ⟨a, c, rfl, List.eq_nil_of_length_eq_zero h0⟩
  · refine .inr ⟨b, off, c, rfl, h1, h2, h3, h4, fun j hj => ?_⟩
    obtain ⟨c1, c2⟩ := entC_at l j hj
    obtain ⟨i1, c1⟩ := List.getElem?_eq_some_iff.1 c1
    obtain ⟨i2, c2⟩ := List.getElem?_eq_some_iff.1 c2
    have e : l.getD j (0, 0) = l[j] := by rw [List.getD_eq_getElem?_getD, List.getElem?_eq_getElem hj]; rfl
    refine ⟨?_, ?_⟩
    · rw [h5 _ i1, c1, e]
    · rw [Nat.add_assoc, h5 _ i2, c2, e]

def FewIs (wn : Nat) (el : List (Int × Int)) (dn : Nat) (e : Ending) : Prop := ∃ b : Bool, (b = true → wn ≤ 1500 ∧ el.length ≤ 50 ∧ dn ≤ 20000 ∧ ∀ x ∈ el, ¬ (300 < x.2 ∧ x.2 ≤ 60000)) ∧ e = .returned (.bool b)
theorem fewIs_no {wn dn : Nat} {el : List (Int × Int)} : FewIs wn el dn (.returned (.bool false)) := ⟨false, (fun h => by cases h), rfl⟩

set_option maxRecDepth 100000 in
set_option maxHeartbeats 8000000 in
theorem few22_any (wa : Option Addr) (wn wc : Nat) (ev : Value) (el : List (Int × Int)) (m : Int) (da : Option Addr) (dn dc : Nat) (w : World) (hev : RdE w ev el) (hwn : wn ≤ 9223372036854775807) (hdn : dn ≤ 9223372036854775807) :
   Calls Try.prog 8 #[.agg #[.slice wa wn wc, ev, .int .i64 m, .slice da dn dc]] w fun e w' => FewIs wn el dn e ∧ Below w.heap.size w w' := by
  have he9 : el.length ≤ 9223372036854775807 := Rd.le hev
  have HBA : ∀ o, Hid (Below w.heap.size w (w.alloc o)) := fun o => (Below.refl _ _).alloc (Nat.le_refl _) o
  obtain ⟨ea, ec, rfl⟩ := Rd.shape hev
  have HE := Lib.hid hev
  clear hev
  go_enter Try.func8, Try.ntmps8
  by_cases h1 : 1500 < wn
  · go_wp2_with fail
    refine bodyPost_ret (v := .bool false) (by simp [results, Try.results8, go_sem]) rfl ⟨fewIs_no, (HBA _).out⟩
  by_cases h2 : 50 < el.length
  · go_wp2_with fail
    refine bodyPost_ret (v := .bool false) (by simp [results, Try.results8, go_sem]) rfl ⟨fewIs_no, (HBA _).out⟩
  by_cases h3 : 20000 < dn
  · go_wp2_with fail
    refine bodyPost_ret (v := .bool false) (by simp [results, Try.results8, go_sem]) rfl ⟨fewIs_no, (HBA _).out⟩
  go_wp2_with fail
  go_loopw [24] (fun i wr => ∃ j : Nat, j ≤ el.length ∧ i = .int .i64 j ∧ (∀ i (hi : i < el.length), i < j → ¬ (300 < el[i].2 ∧ el[i].2 ≤ 60000)) ∧ Below (w.heap.size + 1) (w.alloc (.cells #[.slice wa wn wc, .slice ea el.length ec, .int .i64 m, .slice da dn dc] 26)) wr) (fun i _ => el.length - (intOf i).toNat)
  case atStart => exact ⟨0, by omega, rfl, fun i _ h => absurd h (by omega), Below.refl _ _⟩
  case round =>
    obtain ⟨j, hj, rfl, hall, hbel⟩ := hrel
    have HA := Lib.hid hall
    have HB := Lib.hid hbel
    have hs1 : w.heap.size + 1 ≤ wr.heap.size := by simpa using hbel.size
    have hs2 : w.heap.size < wr.heap.size := by omega
    have hcl : ∀ p : Addr, p.block < w.heap.size → wr.cell? p = w.cell? p := fun p hp => by
      rw [hbel.cell (by omega)]; exact World.cell?_alloc_lt _ _ _ hp
    clear hall hbel
    by_cases hlt : j < el.length
    · rcases RdE.split HE.out with ⟨_, _, _, rfl⟩ | ⟨eb, eoff, ecc, hev, hep, hel2, _, heb, hecell⟩
      · simp at hlt
      simp only [Value.slice.injEq] at hev
      obtain ⟨rfl, -, rfl⟩ := hev
      obtain ⟨d0, d1⟩ := hecell j hlt
      rw [← hcl ⟨eb, eoff + j * 2, none⟩ heb] at d0
      rw [← hcl ⟨eb, eoff + j * 2 + 1, none⟩ heb] at d1
      clear hcl hecell
      obtain ⟨x, hx⟩ : ∃ x, el[j] = x := ⟨_, rfl⟩
      have HX := Lib.hid hx
      rw [hx] at d0 d1
      clear hx
      have HB3 : ∀ o, Hid (Below (w.heap.size + 1) (w.alloc (.cells #[.slice wa wn wc, .slice (some ⟨eb, eoff, none⟩) el.length ec, .int .i64 m, .slice da dn dc] 26)) (wr.alloc o)) := fun o => HB.out.alloc hs1 _
      have HNX : ∀ (_ : ¬ (300 < x.2 ∧ x.2 ≤ 60000)), ∀ i (hi : i < el.length), i < j + 1 → ¬ (300 < el[i].2 ∧ el[i].2 ≤ 60000) := fun h i hi hij => by
        by_cases hij2 : i < j
        · exact HA.out i hi hij2
        · obtain rfl : i = j := by omega
          rw [HX.out]; exact h
      have HNX := Lib.hid HNX
      by_cases hg : 300 < x.2
      · by_cases hl : x.2 ≤ 60000
        · go_wp2_with fail
          refine bodyPost_ret (v := .bool false) (by simp [results, Try.results8, go_sem]) rfl ⟨fewIs_no, (HBA _).out.trans ((HB3 _).out.mono (by omega))⟩
        · go_wp2_with fail
          exact ⟨⟨j + 1, by omega, by go_num, HNX.out (by omega), (HB3 _).out⟩, by simp [intOf]; omega⟩
      · go_wp2_with fail
        exact ⟨⟨j + 1, by omega, by go_num, HNX.out (by omega), (HB3 _).out⟩, by simp [intOf]; omega⟩
    · obtain rfl : j = el.length := by omega
      have HALL : Hid (FewIs wn el dn (.returned (.bool true))) := ⟨true, fun _ => ⟨by omega, by omega, by omega, fun x hx => by
        obtain ⟨i, hi, rfl⟩ := List.getElem_of_mem hx
        exact HA.out i hi hi⟩, rfl⟩
      go_wp2_with fail
      refine bodyPost_ret (v := .bool true) (by simp [results, Try.results8, go_sem]) rfl ⟨HALL.out, (HBA _).out.trans (HB.out.mono (by omega))⟩
end Go.Proofs.Yteeapfgjjankeaa.Mach
