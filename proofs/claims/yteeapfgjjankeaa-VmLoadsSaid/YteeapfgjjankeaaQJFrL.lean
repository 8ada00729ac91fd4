/-
  WHAT IS PROVED: for every image, input, bytes, moment, place and turn 'VmLoads' returns true, and image, input and bytes read behind the call as they read before. No condition.
-/
import Derived.Test.YteeapfgjjankeaaRows
import Derived.Test.YteeapfgjjankeaaQJq
import Derived.Test.YteeapfgjjankeaaQIq
import Derived.ProofKit
import Derived.OpenShut
import Derived.ChangeOld
import Derived.Below
import Derived.SizedLaws
namespace Go.Proofs.Yteeapfgjjankeaa.vmLoads
open Go.ChangeShapes Go.WideShapes Go.ChangeAt Go.RowKit

theorem own : ownKnob Try.prog.godebug = none := by kernel_rfl
theorem laidOut : laidOutB Try.prog = true := by kernel_rfl

set_option maxRecDepth 100000 in
theorem lifted (os : Os) (started : os.Started) (H : Type) (enc : TypeId × Value → H) :
    ReturnsInHanded {} Try.checked os 4 .any (Rows.vmLoadsSpec.pre6 enc Try.prog Try.f4 Rows.vmLoadsRow.domain false) (Rows.vmLoadsSpec.post enc Try.prog Try.f4 false true false false) := by
  refine returnsInHanded_of_change_sized (C := Try.checked) own started (by kernel_rfl) Try.func4
    (ChangeSpec.witness6 (enc := enc) (C := Try.checked) false ⟨#[], #[.agg #[.slice none 0 0, .slice none 0 0, .int .i64 0, .slice none 0 0], .slice none 0 0, .slice none 0 0, .int .u16 0, .int .u16 0, .int .u8 0], []⟩ 8 (by kernel_rfl) (by kernel_rfl) (by kernel_rfl) (by kernel_rfl)) ?_
  intro W base args ds gs before hval0 hW hcnd hsz0 _
  have hsz : (DataW.weightsEach Try.prog (Try.f4.params.toList ++ Rows.vmLoadsSpec.plain.varTypes Try.prog) (ds ++ gs)).all (· ≤ reachBytes) = true := hsz0
  clear hsz0
  have hval : ∀ (j : Nat) t v, Try.f4.params[j]? = some t → args[j]? = some v → Value.okWide Try.prog W .any base t v := hval0
  have hW' := hW
  obtain ⟨p, q, hA0, hV, rfl, hfz, hnd⟩ := hW
  have hA : DataW.TrodAll enc Try.prog W 0 (fun _ => true) true Try.f4.params.toList args.toList ds p := hA0
  rw [Try.params4] at hA hval hsz
  obtain ⟨v0, vs0, d0, ds0, p0, q0, hargs, rfl, rfl, h0, r0⟩ := trodAll_cons hA
  obtain ⟨v1, vs1, d1, ds1, p1, q1, rfl, rfl, rfl, h1, r1⟩ := trodAll_cons r0
  obtain ⟨v2, vs2, d2, ds2, p2, q2, rfl, rfl, rfl, h2, r2⟩ := trodAll_cons r1
  obtain ⟨v3, vs3, d3, ds3, p3, q3, rfl, rfl, rfl, h3, r3⟩ := trodAll_cons r2
  obtain ⟨v4, vs4, d4, ds4, p4, q4, rfl, rfl, rfl, h4, r4⟩ := trodAll_cons r3
  obtain ⟨v5, vs5, d5, ds5, p5, q5, rfl, rfl, rfl, h5, r5⟩ := trodAll_cons r4
  obtain ⟨rfl, rfl, rfl⟩ := trodAll_nil r5
  obtain rfl : args = #[v0, v1, v2, v3, v4, v5] := by cases args; simp_all
  obtain ⟨rfl, rfl⟩ := trodVars_none hV
  have lt0 : ∀ x ∈ p0, x.block < W.heap.size := by obtain ⟨m, hm⟩ := h0; exact DataW.trod_lt m _ _ _ hm
  have lt1 : ∀ x ∈ p1, x.block < W.heap.size := by obtain ⟨m, hm⟩ := h1; exact DataW.trod_lt m _ _ _ hm
  have lt2 : ∀ x ∈ p2, x.block < W.heap.size := by obtain ⟨m, hm⟩ := h2; exact DataW.trod_lt m _ _ _ hm
  have lt3 : ∀ x ∈ p3, x.block < W.heap.size := by obtain ⟨m, hm⟩ := h3; exact DataW.trod_lt m _ _ _ hm
  have lt4 : ∀ x ∈ p4, x.block < W.heap.size := by obtain ⟨m, hm⟩ := h4; exact DataW.trod_lt m _ _ _ hm
  have lt5 : ∀ x ∈ p5, x.block < W.heap.size := by obtain ⟨m, hm⟩ := h5; exact DataW.trod_lt m _ _ _ hm
  obtain ⟨x0, wv, ev, dv, rfl, hRw, hok, hRe, hes, hRd, -⟩ := Mach.image_in (hval 0 26 v0 rfl rfl) h0
  obtain ⟨inp, hRi, hin, hle⟩ := Mach.i64s_in (hval 1 27 v1 rfl rfl) h1
  have hsl := Mach.list_sized (j := 1) hsz rfl rfl Try.underlying27 hle
  rw [Mach.bytesI64] at hsl
  obtain ⟨p2b, hR2, hB2, hle2⟩ := Mach.u8s_in (hval 2 24 v2 rfl rfl) h2
  have hsl2 := Mach.list_sized (j := 2) hsz rfl rfl Try.underlying24 hle2
  rw [Mach.bytesU822] at hsl2
  obtain ⟨n3, rfl, hn3⟩ : ∃ n : Int, v3 = .int .u16 n ∧ (0 ≤ n ∧ n < 65536) := by
    have h3' := h3
    obtain ⟨m, hm⟩ := h3'
    obtain ⟨n, rfl⟩ := okWide_int Try.underlying28 (hval 3 28 v3 rfl rfl)
    obtain ⟨n', e, hw⟩ := Mach.int_cell22 Try.underlying28 hm
    cases e
    exact ⟨n, rfl, Mach.u16_wf hw⟩
  obtain ⟨n4, rfl, hn4⟩ : ∃ n : Int, v4 = .int .u16 n ∧ (0 ≤ n ∧ n < 65536) := by
    have h4' := h4
    obtain ⟨m, hm⟩ := h4'
    obtain ⟨n, rfl⟩ := okWide_int Try.underlying28 (hval 4 28 v4 rfl rfl)
    obtain ⟨n', e, hw⟩ := Mach.int_cell22 Try.underlying28 hm
    cases e
    exact ⟨n, rfl, Mach.u16_wf hw⟩
  obtain ⟨n5, rfl, hn5⟩ : ∃ n : Int, v5 = .int .u8 n ∧ (0 ≤ n ∧ n ≤ 255) := by
    have h5' := h5
    obtain ⟨m, hm⟩ := h5'
    obtain ⟨n, rfl⟩ := okWide_int Try.underlying5 (hval 5 5 v5 rfl rfl)
    obtain ⟨n', e, hw⟩ := Mach.int_cell22 Try.underlying5 hm
    cases e
    exact ⟨n, rfl, Mach.u8_wf hw⟩
  clear hA0 hval0 hsz hle
  refine (Mach.vmLoads_walk wv x0.1 ev x0.2.1 x0.2.2.1 dv x0.2.2.2 v1 inp v2 p2b n3 n4 n5 W hRw hRe hRd hRi hR2 hB2 hok hes hin hn3 hn4 (by omega) (by omega)).mono fun e W' ⟨he, bel⟩ => ?_
  subst he
  exact ⟨_, rfl, _, _, _, [], _, [], hW', trodAll_mk1 (shut_bool Try.underlying4 _), (trodAll_cons_mk (Below.trod laidOut (by kernel_rfl) (of_decide_eq_true (by kernel_rfl)) h0 bel lt0) (trodAll_cons_mk (Below.trod laidOut (by kernel_rfl) (of_decide_eq_true (by kernel_rfl)) h1 bel lt1) (trodAll_cons_mk (Below.trod laidOut (by kernel_rfl) (of_decide_eq_true (by kernel_rfl)) h2 bel lt2) (trodAll_cons_mk (Below.trod laidOut (by kernel_rfl) (of_decide_eq_true (by kernel_rfl)) h3 bel lt3) (trodAll_cons_mk (Below.trod laidOut (by kernel_rfl) (of_decide_eq_true (by kernel_rfl)) h4 bel lt4) (trodAll_cons_mk (Below.trod laidOut (by kernel_rfl) (of_decide_eq_true (by kernel_rfl)) h5 bel lt5) trodAll_mk0)))))), rfl, bel.frame _, fun h => by cases h⟩

theorem over : Rows.vmLoadsRow.holds Try.pinned (OpenSpec.ofChange Rows.vmLoadsSpec) :=
  OpenClaim.holds_of_wide 4 Try.f4 rfl rfl rfl rfl rfl rfl rfl ⟨rfl, rfl, rfl, rfl, rfl⟩ rfl rfl rfl rfl rfl (by kernel_rfl) Try.func4 (by kernel_rfl)
    (of_decide_eq_true (by kernel_rfl)) (by unfold Func.isWrapper; first | (rw [if_pos (by decide +kernel)]; kernel_rfl) | (rw [if_neg (by decide +kernel)]; exact ⟨rfl, rfl⟩))
    (fun os started H enc _ => lifted os started H enc)

theorem proved : Rows.VmLoadsSaid := over
#print axioms proved
end Go.Proofs.Yteeapfgjjankeaa.vmLoads
