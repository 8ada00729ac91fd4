/- Walks: bytes read as several instructions, as the program and as the document do; and two lists compared. -/
import Derived.Test.YtlnaaoigggfefaaV
import Derived.Test.YtlnaaoigggfefaaPk
namespace Go.Proofs.Ytlnaaoigggfefaa
open Go.RowKit

theorem infoW : (Try.prog.info? 26).map (fun i => (i.zero, i.size, i.bytes)) = some (some (.agg #[.int .u8 0, .int .u8 0, .int .u8 0, .int .u8 0, .int .i64 0]), 5, 16) := by kernel_rfl

theorem word_neq (x y : W) (w : World) : (binOp .neq 26 (.agg #[.int .u8 x.op, .int .u8 x.a, .int .u8 x.b, .int .u8 x.c, .int .i64 x.imm]) (.agg #[.int .u8 y.op, .int .u8 y.a, .int .u8 y.b, .int .u8 y.c, .int .i64 y.imm])).run Try.prog w = .ok (.bool (!decide (x = y))) w := by
  obtain ⟨a, b, c, d, e⟩ := x
  obtain ⟨a', b', c', d', e'⟩ := y
  go_simp
  (repeat' split) <;> simp_all

theorem decU_some {l : List Int} {x : W} {k : Nat} (h : decS l = some (x, k)) (hB : isB l) (v : Value) (w : World) (hv : RdB w v l) : Calls Try.prog 10 #[v] w fun e w' => e = .returned (.tuple #[.agg #[.int .u8 x.op, .int .u8 x.a, .int .u8 x.b, .int .u8 x.c, .int .i64 x.imm], .int .i64 k, .int .i64 0]) ∧ Below w.heap.size w w' := by
  refine (decode_any v l w hv hB).mono ?_
  rintro e w' ⟨hb, op, a, b, c, imm, n, err, rfl, h1, h2⟩
  obtain ⟨rfl, rfl, rfl⟩ := h1 _ _ h
  exact ⟨rfl, hb⟩
theorem decU_no {l : List Int} (h : decS l = none) (hB : isB l) (v : Value) (w : World) (hv : RdB w v l) : Calls Try.prog 10 #[v] w fun e w' => e = .returned (.tuple #[.agg #[.int .u8 0, .int .u8 0, .int .u8 0, .int .u8 0, .int .i64 0], .int .i64 0, .int .i64 3]) ∧ Below w.heap.size w w' := by
  refine (decode_any v l w hv hB).mono ?_
  rintro e w' ⟨hb, op, a, b, c, imm, n, err, rfl, h1, h2⟩
  obtain ⟨rfl, rfl, rfl, rfl, rfl, rfl, rfl⟩ := h2 h
  exact ⟨rfl, hb⟩
theorem rdecU_some {l : List Int} {x : W} {k : Nat} (h : decS l = some (x, k)) (hB : isB l) (v : Value) (w : World) (hv : RdB w v l) : Calls Try.prog 11 #[v] w fun e w' => e = .returned (.tuple #[.agg #[.int .u8 x.op, .int .u8 x.a, .int .u8 x.b, .int .u8 x.c, .int .i64 x.imm], .int .i64 k]) ∧ Below w.heap.size w w' := by
  refine (rdecode_any v l w hv hB).mono ?_
  rintro e w' ⟨hb, op, a, b, c, imm, n, rfl, h1, h2⟩
  obtain ⟨rfl, rfl⟩ := h1 _ _ h
  exact ⟨rfl, hb⟩
theorem rdecU_no {l : List Int} (h : decS l = none) (hB : isB l) (v : Value) (w : World) (hv : RdB w v l) : Calls Try.prog 11 #[v] w fun e w' => e = .returned (.tuple #[.agg #[.int .u8 0, .int .u8 0, .int .u8 0, .int .u8 0, .int .i64 0], .int .i64 0]) ∧ Below w.heap.size w w' := by
  refine (rdecode_any v l w hv hB).mono ?_
  rintro e w' ⟨hb, op, a, b, c, imm, n, rfl, h1, h2⟩
  obtain ⟨rfl, rfl, rfl, rfl, rfl, rfl⟩ := h2 h
  exact ⟨rfl, hb⟩

abbrev ownW (w : World) (base : Nat) (v : Value) (l : List W) : Prop := w.ownsRow base 26 5 v l.length (cW l)
theorem ownW_shape {w : World} {base : Nat} {v : Value} {l : List W} (h : ownW w base v l) : ∃ a c, v = .slice a l.length c := (Rd.of_own h).shape
theorem ownW.rd {w : World} {base : Nat} {v : Value} {l : List W} (h : ownW w base v l) : RdW w v l := Rd.of_own h
theorem ownW_grow {w : World} {base n : Nat} {v : Value} {l r : List W} (h : w.ownsRow base 26 5 v n (cW l ++ cW r)) (hn : n = l.length + r.length) : ownW w base v (l ++ r) := by
  subst hn
  show w.ownsRow _ _ _ _ _ _
  rw [List.length_append, cW_append]; exact h

theorem rd_wone (w : World) (x : W) (k : Nat) (hk : k = w.heap.size) : Rd (w.alloc (.cells #[.int .u8 x.op, .int .u8 x.a, .int .u8 x.b, .int .u8 x.c, .int .i64 x.imm] 26)) 5 (.slice (some ⟨k, 0, none⟩) 1 1) 1 (cW [x]) := by
  subst hk
  exact Rd.mk rfl (by decide) (by decide) fun j hj => by
    rw [World.cell?_alloc_at _ _ _ _ rfl]
    simp only [Nat.zero_add]
    exact List.getElem?_eq_getElem hj ▸ (by simp [cW])

/-- What the program's and the document's readers of several have in common. -/
def UnPost (l : List Int) (w : World) (e : Ending) (w' : World) : Prop :=
  ((∃ ws v', unpL 262144 l = .ok ws ∧ e = .returned (.tuple #[v', .int .i64 0]) ∧ RdW w' v' ws) ∨ (∃ k, unpL 262144 l = .error k ∧ e = .returned (.tuple #[.slice none 0 0, .int .i64 k]))) ∧ Below w.heap.size w w'

structure UnLoop (l rest : List Int) (dn : List W) (m : Nat) (w wr : World) (out : Value) : Prop where
  bel : Below w.heap.size w wr
  byt : isB rest
  len : dn.length + m = 262144
  own : ownW wr w.heap.size out dn
  un : unpL 262144 l = (unpL m rest).map (dn ++ ·)

theorem UnLoop.start {l : List Int} {w : World} (hB : isB l) : UnLoop l l [] 262144 w w (.slice none 0 0) :=
  ⟨Below.refl _ _, hB, rfl, ⟨by simp [cW], .inl ⟨rfl, rfl⟩⟩, by cases unpL 262144 l <;> simp [Except.map]⟩
theorem UnLoop.done {l : List Int} {dn : List W} {m : Nat} {w wr : World} {out : Value} (h : UnLoop l [] dn m w wr out) : unpL 262144 l = .ok dn := by
  rw [h.un, unpL_nil]; simp [Except.map]
theorem UnLoop.bad {l rest : List Int} {dn : List W} {m : Nat} {w wr : World} {out : Value} (h : UnLoop l rest dn m w wr out) (hr : rest ≠ []) (hd : decS rest = none) : unpL 262144 l = .error 3 := by
  rw [h.un, unpL_no hr hd]; rfl
theorem UnLoop.full {l rest : List Int} {dn : List W} {m : Nat} {w wr : World} {out : Value} {y : W} {n : Nat} (h : UnLoop l rest dn m w wr out) (hd : decS rest = some (y, n)) (hm : m = 0) : unpL 262144 l = .error 2 := by
  rw [h.un, hm, unpL_full h.byt hd]; rfl
theorem UnLoop.next {l rest : List Int} {dn : List W} {m m' n : Nat} {w wr : World} {out : Value} {y : W} (h : UnLoop l rest dn m w wr out) (hd : decS rest = some (y, n)) (hm : m = m' + 1) : unpL 262144 l = (unpL m' (rest.drop n)).map (dn ++ [y] ++ ·) := by
  rw [h.un, hm, unpL_step h.byt hd]
  cases unpL m' (rest.drop n) <;> simp [Except.map]
theorem UnLoop.step {l rest : List Int} {dn : List W} {m n N : Nat} {w wr w3 w4 : World} {out out' : Value} {y : W} {o1 o2 : Obj} (h : UnLoop l rest dn (m + 1) w wr out) (hun : unpL 262144 l = (unpL m (rest.drop n)).map (dn ++ [y] ++ ·))
    (hb3 : Below w.heap.size w w3) (ho3 : ownW w3 w.heap.size out dn) (hown : w4.ownsRow w.heap.size 26 5 out' N (cW dn ++ cW [y])) (hg : ((w3.alloc o1).alloc o2).grownBy w4 out.ownBlock) (hN : N = dn.length + 1 := by rfl) : UnLoop l (rest.drop n) (dn ++ [y]) m w w4 out' := by
  have hs3 := hb3.size
  refine ⟨((hb3.alloc hs3 _).alloc (by simp; omega) _).grown hg (by simp; omega) (fun k hk => (ho3.lt k hk).1), fun v hv => h.byt v (List.mem_of_mem_drop hv), ?_, ownW_grow hown hN, hun⟩
  have := h.len
  simp; omega

set_option maxHeartbeats 4000000 in
theorem unpack_any (v : Value) (l : List Int) (w : World) (hv : RdB w v l) (hB : isB l) : Calls Try.prog 23 #[v] w (UnPost l w) := by
  obtain ⟨a, c, rfl⟩ := Rd.shape hv
  have HL0 := Lib.hid (UnLoop.start (w := w) hB)
  have HV := Lib.hid hv
  obtain ⟨i0, hi0, hz0, hz1, hz2⟩ := info_parts infoB
  obtain ⟨iw, wi0, wz0, wz1, wz2⟩ := info_parts infoW
  clear hv hB
  go_enter Try.func23, Try.ntmps23
  go_wp2_with fail
  go_loopw [0, 4] (fun v0 out wr => ∃ rest dn m a c, v0 = .slice a (List.length rest) c ∧ Hid (RdB w v0 rest) ∧ Hid (UnLoop l rest dn m w wr out)) (fun v0 _ _ => lenOfV v0)
  case atStart => exact ⟨l, [], 262144, a, c, rfl, HV, HL0⟩
  case round =>
    obtain ⟨rest, dn, m, a, c, rfl, HV, HL⟩ := hrel
    obtain ⟨oa, oc, rfl⟩ := ownW_shape HL.out.own
    have hsz := HL.out.bel.size
    by_cases hr : rest = []
    · subst hr
      have HD := Lib.hid HL.out.done
      go_wp2_with fail
      go_ret2
      exact ⟨.inl ⟨dn, _, HD.out, rfl, HL.out.own.rd⟩, HL.out.bel⟩
    · have hpos : (0 : Int) < (rest.length : Int) := by have := List.length_pos_iff.2 hr; omega
      have HVR := Lib.hid (HV.out.later HL.out.bel)
      cases hd : decS rest with
      | none =>
        have DN := Lib.hid (fun v w h => decU_no hd HL.out.byt v w h)
        have HE := Lib.hid (HL.out.bad hr hd)
        clear hd hr
        go_wp2_with fail
        refine (DN.out _ _ HVR.out).mono ?_
        rintro e w3 ⟨rfl, hb3⟩
        have HB3 := Lib.hid (HL.out.bel.trans (hb3.mono hsz))
        clear hb3
        go_wp2_with fail
        go_ret2
        exact ⟨.inr ⟨3, HE.out, rfl⟩, HB3.out.alloc HB3.out.size _⟩
      | some yn =>
        obtain ⟨y, n⟩ := yn
        have DS := Lib.hid (fun v w h => decU_some hd HL.out.byt v w h)
        obtain ⟨-, -, -, hn1, hn2⟩ := decS_some HL.out.byt hd
        have hml := HL.out.len
        cases m with
        | zero =>
          have HE := Lib.hid (HL.out.full hd rfl)
          have hdl : ((dn.length : Int) == 262144) = true := by simp; omega
          clear hd hr
          go_wp2_with fail
          refine (DS.out _ _ HVR.out).mono ?_
          rintro e w3 ⟨rfl, hb3⟩
          have HB3 := Lib.hid (HL.out.bel.trans (hb3.mono hsz))
          clear hb3
          go_wp2_with fail
          go_ret2
          exact ⟨.inr ⟨2, HE.out, rfl⟩, HB3.out.alloc HB3.out.size _⟩
        | succ m =>
          have HN := Lib.hid (HL.out.next hd rfl)
          have hdl : ((dn.length : Int) == 262144) = false := by simp; omega
          have sl := fun W => run_slice_from (P := Try.prog) 22 5 Try.underlying22 hi0 hz1 a rest.length c n (n : Int) rfl (by omega) W
          have hrd : RdB w (.slice (if c = n then a else a.map (·.add (n * 1))) (rest.length - n) (c - n)) (rest.drop n) := by
            have := rdB_mid HV.out rfl (l := n) (h := rest.length) (by omega) (Nat.le_refl _)
            rwa [List.take_length] at this
          generalize (if c = n then a else a.map (·.add (n * 1))) = a' at sl hrd
          generalize c - n = c' at sl hrd
          have HRD := Lib.hid hrd
          have b1 : dn.length + 1 ≤ maxLen := by unfold maxLen; omega
          have b2 : (dn.length + 1) * 16 ≤ 140737488355328 := by omega
          clear hd hr hrd hi0 hz0 hz1 hz2
          go_wp2_with fail
          refine (DS.out _ _ HVR.out).mono ?_
          rintro e w3 ⟨rfl, hb3⟩
          have HB3 := Lib.hid (HL.out.bel.trans (hb3.mono hsz))
          have HO3 := Lib.hid (own_later HL.out.own hb3)
          have hs3 := HB3.out.size
          clear hb3 DS
          go_wp2_with (at_builtin; refine wpList_append_own_rd _ rfl _ _ 41 rfl w.heap.size 26 iw (.agg #[.int .u8 0, .int .u8 0, .int .u8 0, .int .u8 0, .int .i64 0]) 5 16 Try.underlying41 wi0 wz0 wz1 wz2 rfl (by decide) _ _ _ rfl ((HO3.out.alloc _).alloc _) (.slice (some ⟨w3.heap.size + 1, 0, none⟩) 1 1) 1 (cW [y]) rfl (rd_wone (w3.alloc _) y _ (by simp)) (cW_one _) b1 b2 (by simp; omega) ?_; intro v' w4 hown4 hgrow4)
          exact ⟨⟨rest.drop n, dn ++ [y], m, _, _, by rw [List.length_drop], HRD, HL.out.step HN.out HB3.out HO3.out hown4 hgrow4⟩, by simp [lenOfV]; omega⟩

set_option maxHeartbeats 4000000 in
set_option maxRecDepth 100000 in
theorem refUnpack_any (v : Value) (l : List Int) (w : World) (hv : RdB w v l) (hB : isB l) : Calls Try.prog 24 #[v] w (UnPost l w) := by
  obtain ⟨a, c, rfl⟩ := Rd.shape hv
  have HL0 := Lib.hid (UnLoop.start (w := w) hB)
  have HV := Lib.hid hv
  have hl9 := hv.le
  obtain ⟨i0, hi0, hz0, hz1, hz2⟩ := info_parts infoB
  obtain ⟨iw, wi0, wz0, wz1, wz2⟩ := info_parts infoW
  clear hv hB
  go_enter Try.func24, Try.ntmps24
  go_wp2_with fail
  go_loopw [5, 4] (fun at_ out wr => ∃ (pos : Nat) (dn : List W) (m : Nat), pos ≤ l.length ∧ at_ = .int .i64 pos ∧ Hid (UnLoop l (l.drop pos) dn m w wr out)) (fun at_ _ _ => l.length - (intOf at_).toNat)
  case atStart => exact ⟨0, [], 262144, by omega, rfl, HL0⟩
  case round =>
    obtain ⟨pos, dn, m, hpos, rfl, HL⟩ := hrel
    obtain ⟨oa, oc, rfl⟩ := ownW_shape HL.out.own
    have hsz := HL.out.bel.size
    by_cases hr : pos < l.length
    · have sl := fun W => run_slice_from (P := Try.prog) 22 5 Try.underlying22 hi0 hz1 a l.length c pos (pos : Int) rfl (by omega) W
      have hrd : RdB w (.slice (if c = pos then a else a.map (·.add (pos * 1))) (l.length - pos) (c - pos)) (l.drop pos) := by
        have := rdB_mid HV.out rfl (l := pos) (h := l.length) (by omega) (Nat.le_refl _)
        rwa [List.take_length] at this
      generalize (if c = pos then a else a.map (·.add (pos * 1))) = a' at sl hrd
      generalize c - pos = c' at sl hrd
      have HVR := Lib.hid (hrd.later HL.out.bel)
      have hne : l.drop pos ≠ [] := by intro h; have := congrArg List.length h; simp at this; omega
      have hrl : (l.drop pos).length = l.length - pos := List.length_drop
      cases hd : decS (l.drop pos) with
      | none =>
        have DN := Lib.hid (fun v w h => rdecU_no hd HL.out.byt v w h)
        have HE := Lib.hid (HL.out.bad hne hd)
        clear hd hrd hne hi0 hz0 hz1 hz2 hrl
        go_wp2_with fail
        refine (DN.out _ _ HVR.out).mono ?_
        rintro e w3 ⟨rfl, hb3⟩
        have HB3 := Lib.hid (HL.out.bel.trans (hb3.mono hsz))
        clear hb3
        go_wp2_with fail
        go_ret2
        exact ⟨.inr ⟨3, HE.out, rfl⟩, HB3.out.alloc HB3.out.size _⟩
      | some yn =>
        obtain ⟨y, n⟩ := yn
        have DS := Lib.hid (fun v w h => rdecU_some hd HL.out.byt v w h)
        obtain ⟨-, -, -, hn1, hn2⟩ := decS_some HL.out.byt hd
        rw [hrl] at hn2
        have hml := HL.out.len
        have hn0 : ((n : Int) == 0) = false := by simp; omega
        cases m with
        | zero =>
          have HE := Lib.hid (HL.out.full hd rfl)
          have hdl : (262144 : Int) ≤ (dn.length : Int) := by omega
          clear hd hrd hne hi0 hz0 hz1 hz2 hrl
          go_wp2_with fail
          refine (DS.out _ _ HVR.out).mono ?_
          rintro e w3 ⟨rfl, hb3⟩
          have HB3 := Lib.hid (HL.out.bel.trans (hb3.mono hsz))
          clear hb3
          go_wp2_with fail
          go_ret2
          exact ⟨.inr ⟨2, HE.out, rfl⟩, HB3.out.alloc HB3.out.size _⟩
        | succ m =>
          have HN := Lib.hid (HL.out.next hd rfl)
          have hw : IntKind.i64.wrap ((pos : Int) + (n : Int)) = ((pos + n : Nat) : Int) := by
            rw [IntWalk.i64_left, IntWalk.wrap64_in _ (by omega)]; simp
          have hdl : decide ((262144 : Int) ≤ (dn.length : Int)) = false := decide_eq_false (by omega)
          have b1 : dn.length + 1 ≤ maxLen := by unfold maxLen; omega
          have b2 : (dn.length + 1) * 16 ≤ 140737488355328 := by omega
          clear hd hrd hne hi0 hz0 hz1 hz2 hrl hml
          go_wp2_with fail
          refine (DS.out _ _ HVR.out).mono ?_
          rintro e w3 ⟨rfl, hb3⟩
          have HB3 := Lib.hid (HL.out.bel.trans (hb3.mono hsz))
          have HO3 := Lib.hid (own_later HL.out.own hb3)
          have hs3 := HB3.out.size
          clear hb3 DS
          go_wp2_with (at_builtin; refine wpList_append_own_rd _ rfl _ _ 41 rfl w.heap.size 26 iw (.agg #[.int .u8 0, .int .u8 0, .int .u8 0, .int .u8 0, .int .i64 0]) 5 16 Try.underlying41 wi0 wz0 wz1 wz2 rfl (by decide) _ _ _ rfl ((HO3.out.alloc _).alloc _) (.slice (some ⟨w3.heap.size + 1, 0, none⟩) 1 1) 1 (cW [y]) rfl (rd_wone (w3.alloc _) y _ (by simp)) (cW_one _) b1 b2 (by simp; omega) ?_; intro v' w4 hown4 hgrow4)
          refine ⟨⟨pos + n, dn ++ [y], m, by omega, by go_num, ?_⟩, by simp [intOf]; omega⟩
          have h := HL.out.step HN.out HB3.out HO3.out hown4 hgrow4
          rw [List.drop_drop] at h
          exact h
    · obtain rfl : pos = l.length := by omega
      have hl2 : l.drop l.length = [] := List.drop_length
      rw [hl2] at HL
      have HD := Lib.hid HL.out.done
      clear hi0 hz0 hz1 hz2 hl2
      go_wp2_with fail
      go_ret2
      exact ⟨.inl ⟨dn, _, HD.out, rfl, HL.out.own.rd⟩, HL.out.bel⟩

/-- Two lists, compared one by one. -/
theorem take_eq_next {l m : List W} {j : Nat} (h1 : j < l.length) (h2 : j < m.length) (h : l.take j = m.take j) (he : l[j] = m[j]) : l.take (j + 1) = m.take (j + 1) := by
  rw [List.take_succ_eq_append_getElem h1, List.take_succ_eq_append_getElem h2, h, he]

set_option maxHeartbeats 4000000 in
theorem same_any (v1 v2 : Value) (l m : List W) (w : World) (h1 : RdW w v1 l) (h2 : RdW w v2 m) :
    Calls Try.prog 22 #[v1, v2] w fun e w' => e = .returned (.bool (decide (l = m))) ∧ Below w.heap.size w w' := by
  by_cases hlen : l.length = m.length
  · rcases h1.split with ⟨a, c, rfl, rfl⟩ | ⟨b, off, c, rfl, hp, hlc, hc9, hb, hcell⟩
    · obtain ⟨a2, c2, rfl⟩ := Rd.shape h2
      have hm0 : m = [] := List.eq_nil_of_length_eq_zero hlen.symm
      subst hm0
      go_enter Try.func22, Try.ntmps22
      go_wp2_with fail
      refine wp_loop_rounds 1 ?_
      rw [rounds_succ]
      go_wp2_with fail
      go_ret
      exact ⟨by simp, Below.refl _ _⟩
    · rcases h2.split with ⟨a2, c2, rfl, rfl⟩ | ⟨b2, off2, c2, rfl, hp2, hlc2, hc92, hb2, hcell2⟩
      · simp at hlen; subst hlen; simp at hp
      · have HC := Lib.hid hcell
        have HC2 := Lib.hid hcell2
        have hle : ((l.length : Int) == (m.length : Int)) = true := by simp; omega
        have HLen := Lib.hid hlen
        clear hcell hcell2 h1 h2 hlen
        go_enter Try.func22, Try.ntmps22
        go_wp2_with fail
        go_loopw [13] (fun i wr => ∃ j : Nat, j ≤ l.length ∧ i = .int .i64 j ∧ l.take j = m.take j ∧ Below w.heap.size w wr) (fun i _ => l.length - (intOf i).toNat)
        case atStart => exact ⟨0, by omega, rfl, rfl, Below.refl _ _⟩
        case round =>
          obtain ⟨j, hj, rfl, heq, hbel⟩ := hrel
          have HE := Lib.hid heq
          have HB := Lib.hid hbel
          by_cases hlt : j < l.length
          · have hlt2 : j < m.length := by have := HLen.out; omega
            obtain ⟨d0, d1, d2, d3, d4⟩ := HC.out j hlt
            obtain ⟨e0, e1, e2, e3, e4⟩ := HC2.out j hlt2
            rw [← hbel.cell (p := ⟨b, off + j * 5, none⟩) hb] at d0
            rw [← hbel.cell (p := ⟨b, off + j * 5 + 1, none⟩) hb] at d1
            rw [← hbel.cell (p := ⟨b, off + j * 5 + 2, none⟩) hb] at d2
            rw [← hbel.cell (p := ⟨b, off + j * 5 + 3, none⟩) hb] at d3
            rw [← hbel.cell (p := ⟨b, off + j * 5 + 4, none⟩) hb] at d4
            rw [← hbel.cell (p := ⟨b2, off2 + j * 5, none⟩) hb2] at e0
            rw [← hbel.cell (p := ⟨b2, off2 + j * 5 + 1, none⟩) hb2] at e1
            rw [← hbel.cell (p := ⟨b2, off2 + j * 5 + 2, none⟩) hb2] at e2
            rw [← hbel.cell (p := ⟨b2, off2 + j * 5 + 3, none⟩) hb2] at e3
            rw [← hbel.cell (p := ⟨b2, off2 + j * 5 + 4, none⟩) hb2] at e4
            have HN := Lib.hid (fun he => take_eq_next hlt hlt2 HE.out he)
            have HNo : Hid (l[j] ≠ m[j] → decide (l = m) = false) := fun hne => by
              simp only [decide_eq_false_iff_not]; intro h; subst h; exact hne rfl
            obtain ⟨x, hx⟩ : ∃ x, l[j] = x := ⟨_, rfl⟩
            obtain ⟨y, hy⟩ : ∃ y, m[j] = y := ⟨_, rfl⟩
            rw [hx] at d0 d1 d2 d3 d4 HN HNo
            rw [hy] at e0 e1 e2 e3 e4 HN HNo
            clear heq hbel hx hy
            have hjl : (j : Int) < (l.length : Int) := by omega
            have hjm : (j : Int) < (m.length : Int) := by omega
            by_cases hxy : x = y
            · have HN2 := Lib.hid (HN.out hxy)
              have wn : ∀ W, (binOp .neq 26 (.agg #[.int .u8 x.op, .int .u8 x.a, .int .u8 x.b, .int .u8 x.c, .int .i64 x.imm]) (.agg #[.int .u8 y.op, .int .u8 y.a, .int .u8 y.b, .int .u8 y.c, .int .i64 y.imm])).run Try.prog W = .ok (.bool false) W := fun W => by rw [word_neq, decide_eq_true hxy]; rfl
              clear hxy
              go_wp2_with fail
              go_quiet (fail)
              go_wp2_with fail
              exact ⟨⟨j + 1, by omega, by go_num, HN2.out, Go.below_drewN HB.out _⟩, by simp [intOf]; omega⟩
            · have HR := Lib.hid (HNo.out hxy)
              have wn : ∀ W, (binOp .neq 26 (.agg #[.int .u8 x.op, .int .u8 x.a, .int .u8 x.b, .int .u8 x.c, .int .i64 x.imm]) (.agg #[.int .u8 y.op, .int .u8 y.a, .int .u8 y.b, .int .u8 y.c, .int .i64 y.imm])).run Try.prog W = .ok (.bool true) W := fun W => by rw [word_neq, decide_eq_false hxy]; rfl
              clear hxy
              go_wp2_with fail
              go_quiet (fail)
              go_wp2_with fail
              go_ret
              exact ⟨by rw [HR.out]; rfl, Go.below_drewN HB.out _⟩
          · obtain rfl : j = l.length := by omega
            rw [List.take_length, HLen.out, List.take_length] at heq
            have HR : Hid (decide (l = m) = true) := decide_eq_true heq
            clear heq hbel
            go_wp2_with fail
            go_ret
            exact ⟨by rw [HR.out]; rfl, HB.out⟩
  · obtain ⟨a, c, rfl⟩ := Rd.shape h1
    obtain ⟨a2, c2, rfl⟩ := Rd.shape h2
    have hle : ((l.length : Int) == (m.length : Int)) = false := by simp; omega
    have HR : Hid (decide (l = m) = false) := by
      show _ = _
      simp only [decide_eq_false_iff_not]; intro h; exact hlen (by rw [h])
    clear h1 h2 hlen
    go_enter Try.func22, Try.ntmps22
    go_wp2_with fail
    go_ret
    exact ⟨by rw [HR.out]; rfl, Below.refl _ _⟩
end Go.Proofs.Ytlnaaoigggfefaa
