/- The document's comparisons, at likes: numbers, states; the heap, told. -/
import Derived.Test.YteeapfgjjankeaaQ22
import Derived.Test.YteeapfgjjankeaaQVe
import Derived.Deep.QuietTactic
namespace Go.Proofs.Yteeapfgjjankeaa.Mach
open Go.RowKit

set_option maxHeartbeats 1000000 in
theorem sameInts_eq (v1 v2 : Value) (l : List Int) (w : World) (h1 : Rd w 1 v1 l.length (intsV l)) (h2 : Rd w 1 v2 l.length (intsV l)) :
    Calls Try.prog 22 #[v1, v2] w fun e w' => e = .returned (.bool true) ∧ ∃ q, w' = w.drewN q := by
  have hl9 := Rd.le h1
  rcases Rd.split h1 (by omega) with ⟨a1, c1, rfl, e1, -⟩ | ⟨b1, o1, c1, rfl, g1, -, -, -, k1⟩
  · rcases Rd.split h2 (by omega) with ⟨a2, c2, rfl, -, -⟩ | ⟨b2, o2, c2, rfl, g2, -, -, -, -⟩
    · clear h1 h2
      go_enter Try.func22, Try.ntmps22
      go_wp2_with fail
      refine wp_loop_rounds 1 ?_
      rw [rounds_succ]
      go_wp2_with fail
      go_ret
      exact ⟨rfl, 0, rfl⟩
    · omega
  · obtain ⟨b2, o2, c2, rfl, k2⟩ : ∃ b off c, v2 = .slice (some ⟨b, off, none⟩) l.length c ∧ ∀ j (hj : j < (intsV l).length), w.cell? ⟨b, off + j, none⟩ = some (intsV l)[j] := by
      rcases Rd.split h2 (by omega) with ⟨a2, c2, rfl, e2, -⟩ | ⟨b2, o2, c2, rfl, -, -, -, -, k2⟩
      · omega
      · exact ⟨b2, o2, c2, rfl, k2⟩
    obtain ⟨n, hn⟩ : ∃ n, n = l.length := ⟨_, rfl⟩
    have K1 : Hid (∀ j, j < n → ∃ x, w.cell? ⟨b1, o1 + j, none⟩ = some (.int .i64 x) ∧ w.cell? ⟨b2, o2 + j, none⟩ = some (.int .i64 x)) := Lib.hid fun j hj => by
      have hj' : j < (intsV l).length := by simp [intsV]; omega
      refine ⟨l[j]'(by omega), ?_, ?_⟩
      · rw [k1 j hj']; simp [intsV]
      · rw [k2 j hj']; simp [intsV]
    have hn0 : 0 < n := by omega
    have hn9 : n ≤ 9223372036854775807 := by omega
    rw [← hn]
    clear h1 h2 k1 k2 hn hl9 g1
    go_enter Try.func22, Try.ntmps22
    go_wp2_with fail
    go_loopw [13] (fun i wr => ∃ j : Nat, j ≤ n ∧ i = .int .i64 j ∧ Hid (∃ q, wr = w.drewN q)) (fun i _ => n - (intOf i).toNat)
    case atStart => exact ⟨0, by omega, rfl, Lib.hid ⟨0, rfl⟩⟩
    case round =>
      obtain ⟨wa, rfl⟩ : ∃ wa : World, wa = wr := ⟨_, rfl⟩
      obtain ⟨j, hj, rfl, HQ⟩ := hrel
      have HQD : ∀ q, Hid (∃ q', wa.drewN q = w.drewN q') := fun q => Lib.hid (by obtain ⟨q', rfl⟩ := HQ.out; exact ⟨q' + q, by simp [World.drewN, Nat.add_assoc]⟩)
      by_cases hlt : j < n
      · have hlt' : (j : Int) < n := by omega
        obtain ⟨x, d1, d2⟩ := K1.out j hlt
        have e1 : wa.cell? ⟨b1, o1 + j, none⟩ = some (.int .i64 x) := by obtain ⟨q, rfl⟩ := HQ.out; exact d1
        have e2 : wa.cell? ⟨b2, o2 + j, none⟩ = some (.int .i64 x) := by obtain ⟨q, rfl⟩ := HQ.out; exact d2
        clear d1 d2
        go_wp2_with fail
        go_quiet (fail)
        go_wp2_with fail
        all_goals exact ⟨⟨j + 1, by omega, by simp, HQD _⟩, by simp [intOf]; omega⟩
      · obtain rfl : j = n := by omega
        go_wp2_with fail
        go_ret
        exact ⟨rfl, HQ.out⟩
set_option maxHeartbeats 1000000 in
theorem mheap_any (w : World) (t : Nat → Nat) (base M : Nat) (E : Env) (V : MV) (cl : List (Fr × FV)) (s : St) (h : MRep w t base M E V cl s) (hl : s.heap.length ≤ 4096) :
    Calls Try.prog 23 #[.pointer (some ⟨M, 0, none⟩)] w fun e w' => ∃ v, e = .returned v ∧ w'.ownsRow w.heap.size 2 1 v s.heap.length (intsV s.heap) ∧ Below w.heap.size w w' := by
  obtain ⟨ha, hc, hhv, -, -⟩ := oshape h.hh.own
  have c6 : w.cell? ⟨M, 6, none⟩ = some (.slice ha s.heap.length hc) := (h.cellM 6).trans ((mC_get _ _).2.2.2.2.1.trans (by rw [hhv]))
  have hr := Rd.of_own h.hh.own
  rw [hhv] at hr
  have HC := Lib.hid (cloneN _ _ _ w hr (intsV_one _) (by omega))
  clear h hhv hr
  go_enter Try.func23, Try.ntmps23
  go_wp2_with fail
  refine HC.out.mono ?_
  rintro e w1 ⟨v, rfl, o, b⟩
  have HO := Lib.hid o
  have HB := Lib.hid b
  clear o b
  go_wp2_with fail
  refine bodyPost_ret (v := v) ?_ rfl ⟨v, rfl, HO.out, HB.out⟩
  simp [results, Try.results23, go_sem]
end Go.Proofs.Yteeapfgjjankeaa.Mach
