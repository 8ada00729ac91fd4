/- Append of so many zeros ('append(s, make([]int64, k)...)') to a row of the call's own: the block is the old one, or a new one. -/
import Derived.Test.YtgjmdcbdkdmceaaQ17
import Derived.Lib.AppendZerosOnto
import Derived.Laws.AppendOwn
namespace Go.Proofs.Ytgjmdcbdkdmceaa.Mach
open Go.RowKit

theorem zeros_is (k : Nat) : (Builtin.zeroCells #[Value.int .i64 0] k).toList = intsV (List.replicate k 0) := by
  refine List.ext_getElem? fun i => ?_
  simp only [Builtin.zeroCells, intsV, Array.toList_map, Array.toList_range, List.getElem?_map, List.map_replicate]
  by_cases h : i < k
  · simp [h, Nat.mod_one]
  · simp [h]
theorem run_append_zeros_room {P : Program} (w : World) (t tn ty e : TypeId) (i : TypeInfo) (kq kn : IntKind) (ht : P.underlying t = some (.slice e)) (htn : P.underlying tn = some (.int kn)) (hi : P.info? e = some i) (hz : i.zero = some (.int .i64 0)) (hs : i.size = 1) (hb : i.bytes = 8)
    (g sLen sCap : Nat) (cur : Array Value) (hg : w.heap[g]? = some (.cells cur e (0, 0))) (k : Nat) (h0 : 0 < k) (hk : k ≤ 100000) (hroom : sLen + k ≤ sCap) (hfit : sLen + k ≤ cur.size) :
    (Builtin.append_ #[t, tn] ty #[.slice (some ⟨g, 0, none⟩) sLen sCap, .int kq k]).run P w =
      .ok (.slice (some ⟨g, 0, none⟩) (sLen + k) sCap) (w.setRow g (cur.toList.take sLen ++ intsV (List.replicate k 0) ++ cur.toList.drop (sLen + k)).toArray) := by
  have hl : (intsV (List.replicate k 0)).length = k := by simp [intsV]
  have hst := run_storeCells_at P g sLen e (intsV (List.replicate k 0)) 0 cur w hg (by rw [hl]; simpa using hfit) (intsV_one _)
  simp only [Nat.add_zero, hl] at hst
  have hw : IntKind.i64.wrap (k : Int) = k := by rw [IntKind.wrap_i64]; omega
  have hneg : ¬ ((k : Int) < 0) := by omega
  have h48 : ¬ (281474976710656 < (k : Int) * 8) := by omega
  have hk0 : k ≠ 0 := by omega
  have hz2 : (Builtin.zeroCells (Value.int .i64 0).cells k).toList = intsV (List.replicate k 0) := zeros_is k
  simp [Builtin.append_, run_underlying ht, run_underlying htn, sizeOf, typeInfo, zeroValue, hi, hz, hs, hb, asInt, asIntOf, hw, hneg, h48, hk0, hroom, Addr.add_lit, hz2, hst]
theorem run_append_zeros_f {P : Program} (w : World) (base : Nat) (t tn ty e : TypeId) (i : TypeInfo) (kq kn : IntKind) (ht : P.underlying t = some (.slice e)) (htn : P.underlying tn = some (.int kn)) (hi : P.info? e = some i) (hz : i.zero = some (.int .i64 0)) (hs : i.size = 1) (hb : i.bytes = 8)
    (v : Value) (n : Nat) (xs : List Value) (hown : w.ownsRow base e 1 v n xs) (hn : 0 < n) (k : Nat) (h0 : 0 < k) (hk : k ≤ 100000) (hn2 : n ≤ 100000) (hbase : base ≤ w.heap.size) :
    ∃ v' w', (Builtin.append_ #[t, tn] ty #[v, .int kq k]).run P w = .ok v' w' ∧ w'.ownsRow base e 1 v' (n + k) (xs ++ intsV (List.replicate k 0)) ∧ w.grownBy w' v.ownBlock ∧ ∀ g, v'.ownBlock = some g → w.heap.size ≤ g ∨ v.ownBlock = some g := by
  have hl : (intsV (List.replicate k 0)).length = k := by simp [intsV]
  have hlen : (xs ++ intsV (List.replicate k 0)).length = (n + k) * 1 := by rw [List.length_append, hown.1, hl, Nat.add_mul, Nat.mul_one k]
  rcases hown.2 with ⟨rfl, rfl⟩ | ⟨g, cap, cur, rfl, hbg, hg, hnc, hcm, hcs, htake⟩
  · omega
  by_cases hroom : n + k ≤ cap
  · have hr := run_append_zeros_room (P := P) w t tn ty e i kq kn ht htn hi hz hs hb g n cap cur hg k h0 hk hroom (by omega)
    refine ⟨_, _, hr, ⟨hlen, .inr ⟨g, cap, _, rfl, hbg, setRow_heap w g cur _ e _ hg, hroom, hcm, ?_, ?_⟩⟩, ⟨rfl, rfl, rfl, by simp, fun k _ hk => setRow_other w g k _ (fun e => hk (by simp [Value.ownBlock, e]))⟩, fun g' hg' => .inr hg'⟩
    · simp only [List.size_toArray, List.length_append, List.length_take, List.length_drop, Array.length_toList, hl]
      omega
    · rw [Nat.mul_one] at htake
      rw [htake, ← hlen]
      exact List.take_left
  · have holds : ∀ j u, xs[j]? = some u → w.cell? ((⟨g, 0, none⟩ : Addr).add j) = some u := hown.cells (g := g) rfl
    have hf := run_firstCells_some (P := P) w.drew i.size n ⟨g, 0, none⟩ n cap xs (by rw [hs]; exact hown.1) holds
    have hfit := growslice_fits (need := n + k) (old := cap) (bytes := i.bytes) (by omega) (by rw [hb]; omega)
    have hr := Lib.run_append_grow_zeros (P := P) w t tn ty e i (.int .i64 0) kq kn ht htn hi hz (some ⟨g, 0, none⟩) n cap xs hf k h0 (by omega) (by omega) (by omega) (by rw [hb]; omega) hfit
    have hge := grownCap_ge w (n + k) cap e
    have hcm' : grownCap w (n + k) cap e ≤ maxLen := grownCap_le_maxLen w (n + k) cap e (by unfold maxLen; omega)
    refine ⟨_, _, hr, ⟨hlen, .inr ⟨w.heap.size, _, _, rfl, hbase, heap_alloc_new w.drew _, hge, hcm', ?_, ?_⟩⟩, ⟨rfl, rfl, rfl, by simp, fun k hk _ => heap_alloc_old w.drew _ hk⟩, fun g' hg' => ?_⟩
    · simp only [Array.size_append, List.size_toArray, size_zeroCells, hown.1, Value.cells]
      simp
      omega
    · simp only [Array.toList_append, List.append_assoc]
      rw [← List.append_assoc, ← hlen]
      have : (Builtin.zeroCells (Value.int .i64 0).cells k).toList = intsV (List.replicate k 0) := zeros_is k
      rw [this]
      exact List.take_left
    · simp [Value.ownBlock] at hg'
      exact .inl (by omega)
theorem step_append_zeros_f {P : Program} {ops : Array Oper} {o : Oper} {a : Act} {w : World} {K : Act → World → Prop} {Q : Exit → Act → World → Prop} {E : Prop}
    (hg : o.guard = none) (s x : Operand) (t tn : TypeId) (hop : o.op = Op.call { callee := Callee.builtin Builtin.append, args := #[s, x], argTypes := #[t, tn] })
    (base : Nat) (e : TypeId) (i : TypeInfo) (kq kn : IntKind) (ht : P.underlying t = some (.slice e)) (htn : P.underlying tn = some (.int kn)) (hi : P.info? e = some i) (hz : i.zero = some (.int .i64 0)) (hsi : i.size = 1) (hb : i.bytes = 8)
    (v : Value) (n : Nat) (xs : List Value) (hs : a.eval s = v) (hown : w.ownsRow base e 1 v n xs) (hn : 0 < n) (k : Nat) (hx : a.eval x = .int kq k) (h0 : 0 < k) (hk : k ≤ 100000) (hn2 : n ≤ 100000) (hbase : base ≤ w.heap.size)
    (hK : ∀ v' w', w'.ownsRow base e 1 v' (n + k) (xs ++ intsV (List.replicate k 0)) → w.grownBy w' v.ownBlock → (∀ g, v'.ownBlock = some g → w.heap.size ≤ g ∨ v.ownBlock = some g) → K (a.put o.dst v') w') :
    if Region.wanted o (yielded ops a.tmps) = true then Oper.wp P o a w K Q else E := by
  have hw : Region.wanted o (yielded ops a.tmps) = true := by simp [Region.wanted, hg]
  rw [if_pos hw]
  obtain ⟨v', w', hrun, h2, h3, h4⟩ := run_append_zeros_f (P := P) w base t tn o.type e i kq kn ht htn hi hz hsi hb v n xs hown hn k h0 hk hn2 hbase
  unfold Oper.wp
  simp [execOp, hop, resolve, invoke, builtin, hs, hx, hrun, Result.andThen]
  exact hK v' w' h2 h3 h4
end Go.Proofs.Ytgjmdcbdkdmceaa.Mach

/- The program's machine: its instructions (m37). Printed by gen_do.py. -/
namespace Go.Proofs.Ytgjmdcbdkdmceaa.Mach
open Go.RowKit

set_option maxRecDepth 100000 in
set_option maxHeartbeats 4000000 in
theorem mem_37 (w : World) (t : Nat → Nat) (base M : Nat) (E : Env) (V : MV) (ol : List (Fr × FV)) (f : Fr) (cv : FV) (s : St) (h : MRep w t base M E V (ol ++ [(f, cv)]) s) (na nb nc : Nat) (ia : na < 16) (ib : nb < 16) (ic : nc < 16) (imm : Int) (pi : -9223372036854775808 ≤ imm ∧ imm ≤ 9223372036854775807)
    (hform : formB ⟨37, na, nb, nc, imm⟩ = true) (hf : FrOk E f) (L : Nat) (hs : Sane E L s) (_hL : L ≤ 1000000) (hE : EnvOk E) :
    Calls Try.prog 81 #[.pointer (some ⟨M, 0, none⟩), .pointer (some ⟨cv.blk, 0, none⟩), .agg #[.int .u8 37, .int .u8 na, .int .u8 nb, .int .u8 nc, .int .i64 imm]] w fun e w' =>
      e = .returned (.tuple #[]) ∧ MPost w t base M E (doF E s (ol.map Prod.fst) f ⟨37, na, nb, nc, imm⟩) w' := by
  have hp := h.fr.last
  obtain ⟨F, hF⟩ : ∃ F, F = cv.blk := ⟨_, rfl⟩
  obtain ⟨gA, hgA⟩ : ∃ g, g = f.r na := ⟨_, rfl⟩
  obtain ⟨gB, hgB⟩ : ∃ g, g = f.r nb := ⟨_, rfl⟩
  obtain ⟨gC, hgC⟩ : ∃ g, g = f.r nc := ⟨_, rfl⟩
  have va : w.cell? ⟨F, 2 + na, none⟩ = some (.int .i64 gA) := by rw [hF, hp.cellF, fL_reg f cv hp.rl na ia, hgA]; rfl
  have vb : w.cell? ⟨F, 2 + nb, none⟩ = some (.int .i64 gB) := by rw [hF, hp.cellF, fL_reg f cv hp.rl nb ib, hgB]; rfl
  have vc : w.cell? ⟨F, 2 + nc, none⟩ = some (.int .i64 gC) := by rw [hF, hp.cellF, fL_reg f cv hp.rl nc ic, hgC]; rfl
  have za : w.frozen? ⟨F, 2 + na, none⟩ = false := by rw [hF]; exact hp.frz _
  have iA : (na : Int) < 16 := by omega
  have iB : (nb : Int) < 16 := by omega
  have iC : (nc : Int) < 16 := by omega
  have hlF : F < w.heap.size := by rw [hF]; exact hp.lt
  have hlM : M < w.heap.size := h.ltM
  have tF : 2 < t F := by rw [hF, hp.tf]; omega
  have tM : 2 < t M := by rw [h.tm]; omega
  have nFM : ¬ F = M := fun e => by have h1 := hp.tf; rw [← hF, e, h.tm] at h1; omega
  have nMF : ¬ M = F := fun e => nFM e.symm
  have mixed : Try.prog.follows Departure.mixedOrders = true := by kernel_rfl
  have H := Lib.hid h
  have HP := Lib.hid hp
  have HF := Lib.hid hF
  have HFR := Lib.hid hf
  have HS := Lib.hid hs
  have HEE := Lib.hid hE
  have HGA := Lib.hid hgA.symm
  have HGB := Lib.hid hgB.symm
  have HGC := Lib.hid hgC.symm
  have BEL : Hid (∀ W : World, Below W.heap.size W (W.alloc (.cells #[.int .u8 37, .int .u8 na, .int .u8 nb, .int .u8 nc, .int .i64 imm] 73))) := fun W => (Below.refl _ _).alloc (Nat.le_refl _) _
  have F0 : Hid (Fx w w t t) := Fx.refl w t
  rw [← hF]
  clear h hp hF hf hs hE hgA hgB hgC
  go_enter Try.func81, Try.ntmps81
  have eT : s.top (ol.map Prod.fst) f = s := by
    have e := H.out.opn
    rw [List.map_append, List.map_cons, List.map_nil] at e
    show { s with opn := ol.map Prod.fst ++ [f] } = s
    rw [← e]
  have ET := Lib.hid eT
  clear eT
  have hi0 := formB_imm hform (by omega)
  obtain ⟨ni, rfl⟩ : ∃ n : Nat, imm = n := ⟨imm.toNat, by omega⟩
  obtain ⟨ha, hcp, hhv, -, -⟩ := oshape H.out.hh.own
  have m6 : w.cell? ⟨M, 6, none⟩ = some (.slice ha s.heap.length hcp) := (H.out.cellM 6).trans (by rw [(mC_get V s).2.2.2.2.1, hhv])
  have m8 : w.cell? ⟨M, 8, none⟩ = some (.int .u8 s.end_) := (H.out.cellM 8).trans (mC_get V s).2.2.2.2.2.2.1
  have z8 := H.out.frzM 8
  have hhl : s.heap.length ≤ 4096 := HS.out.hl
  have z6 := H.out.frzM 6
  have hni : ni ≤ 256 := formB_37 hform
  have ew1 : IntKind.i64.wrap ((s.heap.length : Int) + ni) = (s.heap.length : Int) + ni := by rw [IntKind.wrap_i64]; omega
  have ew2 : IntKind.i64.wrap ((s.heap.length : Int) + ni + 1) = (s.heap.length : Int) + ni + 1 := by rw [IntKind.wrap_i64]; omega
  go_wp2_with fail
  obtain ⟨w1, hw1⟩ : ∃ w1, w1 = w.alloc (.cells #[.int .u8 37, .int .u8 na, .int .u8 nb, .int .u8 nc, .int .i64 ni] 73) := ⟨_, rfl⟩
  rw [← hw1]
  have hB1 : Below w.heap.size w w1 := by rw [hw1]; exact BEL.out w
  have hc1 : w1.heap[w.heap.size]? = some (.cells #[.int .u8 37, .int .u8 na, .int .u8 nb, .int .u8 nc, .int .i64 ni] 73 (0, 0)) := by rw [hw1]; exact heap_alloc_new _ _
  have q01 : w1.cell? ⟨w.heap.size, 0, none⟩ = some (.int .u8 37) := by simp [World.cell?, hc1]
  have q11 : w1.cell? ⟨w.heap.size, 1, none⟩ = some (.int .u8 na) := by simp [World.cell?, hc1]
  have q21 : w1.cell? ⟨w.heap.size, 2, none⟩ = some (.int .u8 nb) := by simp [World.cell?, hc1]
  have q31 : w1.cell? ⟨w.heap.size, 3, none⟩ = some (.int .u8 nc) := by simp [World.cell?, hc1]
  have q41 : w1.cell? ⟨w.heap.size, 4, none⟩ = some (.int .i64 ni) := by simp [World.cell?, hc1]
  have va1 := (hB1.cell (p := ⟨F, 2 + na, none⟩) hlF).trans va
  have vb1 := (hB1.cell (p := ⟨F, 2 + nb, none⟩) hlF).trans vb
  have vc1 := (hB1.cell (p := ⟨F, 2 + nc, none⟩) hlF).trans vc
  have za1 := (hB1.frozen (p := ⟨F, 2 + na, none⟩) hlF).trans za
  have H1 := Lib.hid (H.out.below hB1)
  have F1 : Hid (Fx w w1 t t) := Fx.below hB1
  have hl1 : w.heap.size < w1.heap.size := (Array.getElem?_eq_some_iff.1 hc1).1
  have hlF1 : F < w1.heap.size := by omega
  have hlM1 : M < w1.heap.size := by omega
  have nbF : ¬ w.heap.size = F := by omega
  have nbM : ¬ w.heap.size = M := by omega
  have HB1 := Lib.hid hB1
  have m61 := (hB1.cell (p := ⟨M, 6, none⟩) hlM).trans m6
  have m81 := (hB1.cell (p := ⟨M, 8, none⟩) hlM).trans m8
  have z81 := (hB1.frozen (p := ⟨M, 8, none⟩) hlM).trans z8
  have z61 := (hB1.frozen (p := ⟨M, 6, none⟩) hlM).trans z6
  clear m6 m8 z8 z6
  clear hw1 hc1 va vb vc za hB1
  by_cases h1 : 4096 < (s.heap.length : Int) + ni + 1
  · have d1 : decide (4096 < (s.heap.length : Int) + ni + 1) = true := decide_eq_true h1
    have HD := Lib.hid d1
    go_quiet (fail)
    go_wp2_with fail
    refine (ends_any M s.end_ 7 (w1.drewN nq) m81 z81).mono ?_
    rintro e w3 ⟨rfl, rfl⟩
    go_wp2_with fail
    refine bodyPost_ret (results_none rfl _ _ _) rfl ⟨rfl, ?_⟩
    have R := (H1.out.drew nq).end' 7
    have FX := (F1.out.drewN nq).set (g := M) (i := 8) (.int .u8 7) tM
    rw [doF_37, HD.out, if_pos rfl, show (s.ends 7).top (ol.map Prod.fst) f = s.ends 7 from by show (s.top (ol.map Prod.fst) f).ends 7 = _; rw [ET.out]]
    exact ⟨t, V, _, R, FX⟩
  · have d1 : decide (4096 < (s.heap.length : Int) + ni + 1) = false := decide_eq_false h1
    have HD := Lib.hid d1
    go_quiet (fail)
    go_wp2_with fail
    have hi1 : 0 < ni := by have := formB_37' hform; omega
    obtain ⟨i1, a1, a2, a3, a4⟩ := info_i64
    have HI := Lib.hid (And.intro a1 (And.intro a2 (And.intro a3 a4)))
    obtain ⟨w2, hw2⟩ : ∃ w2, w2 = w1.drewN nq := ⟨_, rfl⟩
    rw [← hw2]
    have H2 : Hid (MRep w2 t base M E V (ol ++ [(f, cv)]) s) := by rw [hw2]; exact H1.out.drew nq
    have F2 : Hid (Fx w w2 t t) := by rw [hw2]; exact F1.out.drewN nq
    have m62 : w2.cell? ⟨M, 6, none⟩ = some (.slice ha s.heap.length hcp) := by rw [hw2]; exact m61
    have z62 : w2.frozen? ⟨M, 6, none⟩ = false := by rw [hw2]; exact z61
    have q12 : w2.cell? ⟨w.heap.size, 1, none⟩ = some (.int .u8 na) := by rw [hw2]; exact q11
    have q42 : w2.cell? ⟨w.heap.size, 4, none⟩ = some (.int .i64 ni) := by rw [hw2]; exact q41
    have hl2 : w.heap.size < w2.heap.size := by rw [hw2]; exact hl1
    have hlF2 : F < w2.heap.size := by rw [hw2]; exact hlF1
    have hlM2 : M < w2.heap.size := by rw [hw2]; exact hlM1
    have hbs2 : base ≤ w2.heap.size := H2.out.bs
    have hho := H2.out.hh.own
    rw [hhv] at hho
    have OA : Hid (((w2.alloc (.cells #[.int .i64 ni] 2)).drew).ownsRow base 2 1 (.slice ha s.heap.length hcp) s.heap.length (intsV s.heap)) := hho.alloc _
    have RA : Hid (Rd ((w2.alloc (.cells #[.int .i64 ni] 2)).drew) 1 (.slice (some ⟨w2.heap.size, 0, none⟩) 1 1) 1 [.int .i64 ni]) := lit1_rd w2 _ _
    have BA : Hid (base ≤ ((w2.alloc (.cells #[.int .i64 ni] 2)).drew).heap.size) := by show _ ≤ (w2.alloc _).heap.size; simp; omega
    have y1 : s.heap.length + 1 ≤ maxLen := by unfold maxLen; omega
    have y2 : (s.heap.length + 1) * 8 ≤ 140737488355328 := by omega
    have y3 : s.heap.length + 1 ≤ 100000 := by omega
    have y4 : ni ≤ 100000 := by omega
    have y5 : 0 < s.heap.length + 1 := by omega
    have htg := H2.out.hh.tag
    simp only [hhv] at htg
    have HTG := Lib.hid htg
    have h2c : 2 < 5 := by omega
    have HROW : Hid (∀ (W : World) (v : Value), W.ownsRow base 2 1 v (s.heap.length + 1 + ni) (intsV s.heap ++ [.int .i64 ni] ++ intsV (List.replicate ni 0)) → W.ownsRow base 2 1 v (s.heap ++ [(ni : Int)] ++ List.replicate ni 0).length (intsV (s.heap ++ [(ni : Int)] ++ List.replicate ni 0))) := by
      intro W v hW
      have e1 : (s.heap ++ [(ni : Int)] ++ List.replicate ni 0).length = s.heap.length + 1 + ni := by simp; omega
      have e2 : intsV (s.heap ++ [(ni : Int)] ++ List.replicate ni 0) = intsV s.heap ++ [.int .i64 ni] ++ intsV (List.replicate ni 0) := by simp [intsV]
      rw [e1, e2]; exact hW
    have htX : t w.heap.size ≠ 5 := fun e => by have := H.out.lt w.heap.size (by omega); omega
    clear hho a1 a2 a3 a4 htg hw2 H1 F1 va1 vb1 vc1 za1 q01 q11 q21 q31 q41 m61 z61 m81 z81 hl1 hlF1 hlM1 HB1
    go_region_law_o (first | (refine step_append_f rfl _ _ 27 rfl base 2 i1 (.int .i64 0) 1 8 Try.underlying27 HI.out.1 HI.out.2.1 HI.out.2.2.1 HI.out.2.2.2 rfl (by decide) _ s.heap.length (intsV s.heap) rfl OA.out _ 1 [.int .i64 ni] rfl RA.out (ints_oneCell .i64 [(ni : Int)]) y1 y2 BA.out ?_; intro v7 w7 hown7 hgrow7 hfr7; obtain ⟨va7, vc7, rfl, -, -⟩ := oshape hown7; have TR7 := Lib.hid (Trn.appD (t := t) (c := 5) (base := base) _ hgrow7 HTG.out hfr7 hown7 h2c hbs2); have HO7 := Lib.hid hown7; have hbs7 : base ≤ w7.heap.size := Nat.le_trans hbs2 TR7.out.fx.size; have q47 := (World.cell?_of_block (a := ⟨w.heap.size, 4, none⟩) ((TR7.out.blks w.heap.size hl2 htX).1)).trans q42; clear hown7 hgrow7 hfr7) | (refine step_append_zeros_f rfl _ _ 27 2 rfl base 2 i1 .i64 .i64 Try.underlying27 Try.underlying2 HI.out.1 HI.out.2.1 HI.out.2.2.1 HI.out.2.2.2 _ (s.heap.length + 1) _ rfl HO7.out y5 ni rfl hi1 y4 y3 hbs7 ?_; intro v8 w8 hown8 hgrow8 hfr8; obtain ⟨va8, vc8, rfl, -, -⟩ := oshape hown8; have TR8 := Lib.hid (TR7.out.trans (Trn.grown (c := 5) hgrow8 (updV_self _ _ _) hfr8 hown8 h2c hbs7)); have HNW := Lib.hid (H2.out.newHeap TR8.out (hp' := s.heap ++ [(ni : Int)] ++ List.replicate ni 0) ⟨HROW.out _ _ hown8, updV_self _ _ _⟩); have hbO := (TR8.out.blks M hlM2 (by have := H2.out.tm; omega)).1; have m68 := (World.cell?_of_block (a := ⟨M, 6, none⟩) hbO).trans m62; have z68 := (World.frozen?_of_block (a := ⟨M, 6, none⟩) hbO).trans z62; clear hbO hown8 hgrow8 hfr8))
    all_goals
      obtain ⟨w9, hw9⟩ : ∃ w9, w9 = w8.setCell ⟨M, 6, none⟩ (.slice va8 (s.heap.length + 1 + ni) vc8) := ⟨_, rfl⟩
      rw [← hw9]
      obtain ⟨t9, ht9⟩ : ∃ t9, t9 = updV (updV t (.slice va7 (s.heap.length + 1) vc7) 5) (.slice va8 (s.heap.length + 1 + ni) vc8) 5 := ⟨_, rfl⟩
      obtain ⟨s9, hs9⟩ : ∃ s9 : St, s9 = { s with heap := s.heap ++ [(ni : Int)] ++ List.replicate ni 0 } := ⟨_, rfl⟩
      have H9 : Hid (MRep w9 t9 base M E { V with hv := .slice va8 (s.heap.length + 1 + ni) vc8 } (ol ++ [(f, cv)]) s9) := by rw [hw9, ht9, hs9]; exact HNW.out.1
      have F9 : Hid (Fx w w9 t t9) := by rw [hw9, ht9]; exact F2.out.trans HNW.out.2
      have hp9 := H9.out.fr.last
      have va9 : w9.cell? ⟨F, 2 + na, none⟩ = some (.int .i64 gA) := by rw [HF.out, hp9.cellF, fL_reg f cv hp9.rl na ia, ← HGA.out]; rfl
      have za9 : w9.frozen? ⟨F, 2 + na, none⟩ = false := by rw [HF.out]; exact hp9.frz _
      have tF9 : 2 < t9 F := by rw [HF.out, hp9.tf]; omega
      have hX8 := (TR8.out.blks w.heap.size hl2 htX).1
      have hX9 : w9.heap[w.heap.size]? = w2.heap[w.heap.size]? := by rw [hw9, Below.heap_setCell _ _ _ _ nbM]; exact hX8
      have q19 := (World.cell?_of_block (a := ⟨w.heap.size, 1, none⟩) hX9).trans q12
      have q49 := (World.cell?_of_block (a := ⟨w.heap.size, 4, none⟩) hX9).trans q42
      have m69 : w9.cell? ⟨M, 6, none⟩ = some (.slice va8 (s.heap.length + 1 + ni) vc8) := (H9.out.cellM 6).trans (mC_get _ s9).2.2.2.2.1
      have ew3 : IntKind.i64.wrap ((s.heap.length : Int) + 1) = (s.heap.length : Int) + 1 := by rw [IntKind.wrap_i64]; omega
      have HS9 := Lib.hid hs9
      clear hw9 ht9 hs9 hp9 hX8 hX9 HNW TR7 TR8 m68 z68 HO7 q12 q42 q47 m62 z62 H2 F2 HROW
      go_wp2_with fail
      go_still_tail 12, mixed
      go_wp2_with fail
      refine bodyPost_end (results_none rfl _ _ _) rfl ⟨rfl, ?_⟩
      have R := (H9.out.reg na ia ((s.heap.length : Int) + 1)).drew 1
      have FX := (F9.out.set (g := F) (i := 2 + na) (.int .i64 ((s.heap.length : Int) + 1)) tF9).drewN 1
      rw [← HF.out, HS9.out] at R
      rw [doF_37, HD.out, if_neg (by decide), Int.toNat_natCast]
      exact ⟨t9, _, _, R, FX⟩

end Go.Proofs.Ytgjmdcbdkdmceaa.Mach
