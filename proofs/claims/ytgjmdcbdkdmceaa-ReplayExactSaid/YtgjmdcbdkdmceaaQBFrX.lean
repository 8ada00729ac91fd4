/-
  WHAT IS PROVED: for every image, input, interval, number of places kept, choices, places and place 'ReplayExact' returns true, and image, input, choices and places read behind the call as they read before. No condition.
-/
import Derived.Test.YtgjmdcbdkdmceaaRows
import Derived.Test.YtgjmdcbdkdmceaaQBv
import Derived.Test.YtgjmdcbdkdmceaaQz35
import Derived.ProofKit
import Derived.OpenShut
import Derived.ChangeOld
import Derived.Below
import Derived.SizedLaws
namespace Go.Proofs.Ytgjmdcbdkdmceaa.replayExact
open Go.ChangeShapes Go.WideShapes Go.ChangeAt Go.RowKit

theorem own : ownKnob Try.prog.godebug = none := by kernel_rfl
theorem laidOut : laidOutB Try.prog = true := by kernel_rfl

set_option maxRecDepth 100000 in
theorem lifted (os : Os) (started : os.Started) (H : Type) (enc : TypeId × Value → H) :
    ReturnsInHanded {} Try.checked os 3 .any (Rows.replayExactSpec.pre6 enc Try.prog Try.f3 Rows.replayExactRow.domain false) (Rows.replayExactSpec.post enc Try.prog Try.f3 false true false false) := by
  refine returnsInHanded_of_change_sized (C := Try.checked) own started (by kernel_rfl) Try.func3
    (ChangeSpec.witness6 (enc := enc) (C := Try.checked) false ⟨#[], #[.agg #[.slice none 0 0, .slice none 0 0, .int .i64 0, .slice none 0 0], .slice none 0 0, .int .u8 0, .int .u8 0, .slice none 0 0, .slice none 0 0, .int .i64 0], []⟩ 8 (by kernel_rfl) (by kernel_rfl) (by kernel_rfl) (by kernel_rfl)) ?_
  intro W base args ds gs before hval0 hW hcnd hsz0 _
  have hsz : (DataW.weightsEach Try.prog (Try.f3.params.toList ++ Rows.replayExactSpec.plain.varTypes Try.prog) (ds ++ gs)).all (· ≤ reachBytes) = true := hsz0
  clear hsz0
  have hval : ∀ (j : Nat) t v, Try.f3.params[j]? = some t → args[j]? = some v → Value.okWide Try.prog W .any base t v := hval0
  have hW' := hW
  obtain ⟨p, q, hA0, hV, rfl, hfz, hnd⟩ := hW
  have hA : DataW.TrodAll enc Try.prog W 0 (fun _ => true) true Try.f3.params.toList args.toList ds p := hA0
  rw [Try.params3] at hA hval hsz
  obtain ⟨v0, vs0, d0, ds0, p0, q0, hargs, rfl, rfl, h0, r0⟩ := trodAll_cons hA
  obtain ⟨v1, vs1, d1, ds1, p1, q1, rfl, rfl, rfl, h1, r1⟩ := trodAll_cons r0
  obtain ⟨v2, vs2, d2, ds2, p2, q2, rfl, rfl, rfl, h2, r2⟩ := trodAll_cons r1
  obtain ⟨v3, vs3, d3, ds3, p3, q3, rfl, rfl, rfl, h3, r3⟩ := trodAll_cons r2
  obtain ⟨v4, vs4, d4, ds4, p4, q4, rfl, rfl, rfl, h4, r4⟩ := trodAll_cons r3
  obtain ⟨v5, vs5, d5, ds5, p5, q5, rfl, rfl, rfl, h5, r5⟩ := trodAll_cons r4
  obtain ⟨v6, vs6, d6, ds6, p6, q6, rfl, rfl, rfl, h6, r6⟩ := trodAll_cons r5
  obtain ⟨rfl, rfl, rfl⟩ := trodAll_nil r6
  obtain rfl : args = #[v0, v1, v2, v3, v4, v5, v6] := by cases args; simp_all
  obtain ⟨rfl, rfl⟩ := trodVars_none hV
  have lt0 : ∀ x ∈ p0, x.block < W.heap.size := by obtain ⟨m, hm⟩ := h0; exact DataW.trod_lt m _ _ _ hm
  have lt1 : ∀ x ∈ p1, x.block < W.heap.size := by obtain ⟨m, hm⟩ := h1; exact DataW.trod_lt m _ _ _ hm
  have lt2 : ∀ x ∈ p2, x.block < W.heap.size := by obtain ⟨m, hm⟩ := h2; exact DataW.trod_lt m _ _ _ hm
  have lt3 : ∀ x ∈ p3, x.block < W.heap.size := by obtain ⟨m, hm⟩ := h3; exact DataW.trod_lt m _ _ _ hm
  have lt4 : ∀ x ∈ p4, x.block < W.heap.size := by obtain ⟨m, hm⟩ := h4; exact DataW.trod_lt m _ _ _ hm
  have lt5 : ∀ x ∈ p5, x.block < W.heap.size := by obtain ⟨m, hm⟩ := h5; exact DataW.trod_lt m _ _ _ hm
  have lt6 : ∀ x ∈ p6, x.block < W.heap.size := by obtain ⟨m, hm⟩ := h6; exact DataW.trod_lt m _ _ _ hm
  obtain ⟨x0, wv, ev, dv, rfl, hRw, hok, hRe, hes, hRd, -⟩ := Mach.image_in (hval 0 26 v0 rfl rfl) h0
  obtain ⟨inp, hRi, hin, hle⟩ := Mach.i64s_in (hval 1 27 v1 rfl rfl) h1
  have hsl := Mach.list_sized (j := 1) hsz rfl rfl Try.underlying27 hle
  rw [Mach.bytesI64] at hsl
  obtain ⟨n2, rfl, hn2⟩ : ∃ n : Int, v2 = .int .u8 n ∧ (0 ≤ n ∧ n ≤ 255) := by
    have h2' := h2
    obtain ⟨m, hm⟩ := h2'
    obtain ⟨n, rfl⟩ := okWide_int Try.underlying5 (hval 2 5 v2 rfl rfl)
    obtain ⟨n', e, hw⟩ := Mach.int_cell22 Try.underlying5 hm
    cases e
    exact ⟨n, rfl, Mach.u8_wf hw⟩
  obtain ⟨n3, rfl, hn3⟩ : ∃ n : Int, v3 = .int .u8 n ∧ (0 ≤ n ∧ n ≤ 255) := by
    have h3' := h3
    obtain ⟨m, hm⟩ := h3'
    obtain ⟨n, rfl⟩ := okWide_int Try.underlying5 (hval 3 5 v3 rfl rfl)
    obtain ⟨n', e, hw⟩ := Mach.int_cell22 Try.underlying5 hm
    cases e
    exact ⟨n, rfl, Mach.u8_wf hw⟩
  obtain ⟨l4, hR4, hB4, hle4⟩ := Mach.intl_in (hval 4 28 v4 rfl rfl) h4
  have hsl4 := Mach.list_sized (j := 4) hsz rfl rfl Try.underlying28 hle4
  rw [Mach.bytesInt] at hsl4
  obtain ⟨l5, hR5, hB5, hle5⟩ := Mach.intl_in (hval 5 28 v5 rfl rfl) h5
  have hsl5 := Mach.list_sized (j := 5) hsz rfl rfl Try.underlying28 hle5
  rw [Mach.bytesInt] at hsl5
  obtain ⟨n6, rfl, hn6⟩ : ∃ n : Int, v6 = .int .i64 n ∧ Mach.i64 n := by
    have h6' := h6
    obtain ⟨m, hm⟩ := h6'
    obtain ⟨n, rfl⟩ := okWide_int Try.underlying3 (hval 6 3 v6 rfl rfl)
    obtain ⟨n', e, hw⟩ := Mach.int_cell22 Try.underlying3 hm
    cases e
    exact ⟨n, rfl, Mach.i64_wf hw⟩
  clear hA0 hval0 hsz hle
  refine (Mach.replayExact_walk wv x0.1 ev x0.2.1 x0.2.2.1 dv x0.2.2.2 v1 inp n2 n3 v4 l4 v5 l5 n6 W hRw hRe hRd hRi hok hes hin (by omega) hn2 hn3 hR4 hB4 (by omega) hR5 hn6).mono fun e W' ⟨he, bel⟩ => ?_
  subst he
  exact ⟨_, rfl, _, _, _, [], _, [], hW', trodAll_mk1 (shut_bool Try.underlying4 _), (trodAll_cons_mk (Below.trod laidOut (by kernel_rfl) (of_decide_eq_true (by kernel_rfl)) h0 bel lt0) (trodAll_cons_mk (Below.trod laidOut (by kernel_rfl) (of_decide_eq_true (by kernel_rfl)) h1 bel lt1) (trodAll_cons_mk (Below.trod laidOut (by kernel_rfl) (of_decide_eq_true (by kernel_rfl)) h2 bel lt2) (trodAll_cons_mk (Below.trod laidOut (by kernel_rfl) (of_decide_eq_true (by kernel_rfl)) h3 bel lt3) (trodAll_cons_mk (Below.trod laidOut (by kernel_rfl) (of_decide_eq_true (by kernel_rfl)) h4 bel lt4) (trodAll_cons_mk (Below.trod laidOut (by kernel_rfl) (of_decide_eq_true (by kernel_rfl)) h5 bel lt5) (trodAll_cons_mk (Below.trod laidOut (by kernel_rfl) (of_decide_eq_true (by kernel_rfl)) h6 bel lt6) trodAll_mk0))))))), rfl, bel.frame _, fun h => by cases h⟩

theorem over : Rows.replayExactRow.holds Try.pinned (OpenSpec.ofChange Rows.replayExactSpec) :=
  OpenClaim.holds_of_wide 3 Try.f3 rfl rfl rfl rfl rfl rfl rfl ⟨rfl, rfl, rfl, rfl, rfl⟩ rfl rfl rfl rfl rfl (by kernel_rfl) Try.func3 (by kernel_rfl)
    (of_decide_eq_true (by kernel_rfl)) (by unfold Func.isWrapper; first | (rw [if_pos (by decide +kernel)]; kernel_rfl) | (rw [if_neg (by decide +kernel)]; exact ⟨rfl, rfl⟩))
    (fun os started H enc _ => lifted os started H enc)

theorem proved : Rows.ReplayExactSaid := over
#print axioms proved
end Go.Proofs.Ytgjmdcbdkdmceaa.replayExact
