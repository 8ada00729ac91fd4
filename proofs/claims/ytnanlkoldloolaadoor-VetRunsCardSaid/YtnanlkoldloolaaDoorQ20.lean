/- The document's machine: a step, whatever it is; so many steps. -/
import Derived.Test.YtnanlkoldloolaaDoorQZa
import Derived.Test.YtnanlkoldloolaaDoorQZb
import Derived.Test.YtnanlkoldloolaaDoorQZc
import Derived.Test.YtnanlkoldloolaaDoorQZf
import Derived.Test.YtnanlkoldloolaaDoorQZD
import Derived.Test.YtnanlkoldloolaaDoorQZu
import Derived.Test.YtnanlkoldloolaaDoorQZv
import Derived.Test.YtnanlkoldloolaaDoorQZy
import Derived.Test.YtnanlkoldloolaaDoorQZz
import Derived.Test.YtnanlkoldloolaaDoorQZw
import Derived.Test.YtnanlkoldloolaaDoorQZt
import Derived.Test.YtnanlkoldloolaaDoorQZr
import Derived.Test.YtnanlkoldloolaaDoorQZs
import Derived.Test.YtnanlkoldloolaaDoorQ19
import Derived.Test.YtnanlkoldloolaaDoorQ18
import Derived.Test.YtnanlkoldloolaaDoorQ17
import Derived.Deep.DeepCutAuto
import Derived.Deep.RegionHeld3
import Derived.Deep.RegionLaw
import Derived.StillTailTactics
namespace Go.Proofs.YtnanlkoldloolaaDoor.Mach
open Go.RowKit

theorem rrep_last {w : World} {t : Nat → Nat} {base M : Nat} {E : Env} {V : RV} {cl : List (Fr × CV)} {s : St} {mk : Bool} (h : RRep w t base M E V cl s mk) (hne : s.opn ≠ []) : ∃ ol f cv, cl = ol ++ [(f, cv)] := by
  rcases List.eq_nil_or_concat cl with e | ⟨ol, p, e⟩
  · have := h.opn; rw [e] at this; exact absurd this hne
  · exact ⟨ol, p.1, p.2, by rw [e, List.concat_eq_append]⟩

set_option maxHeartbeats 1000000 in
/-- A step of the document's machine is a step of the plain one. -/
theorem rstep_any (w : World) (t : Nat → Nat) (base M : Nat) (E : Env) (V : RV) (cl : List (Fr × CV)) (s : St) (mk : Bool) (h : RRep w t base M E V cl s mk) (hE : EnvOk E) (L : Nat) (hs : Sane E L s) (hL : L ≤ 1000000) (h0 : s.end_ = 0) :
    Calls Tryd.prog 24 #[.pointer (some ⟨M, 0, none⟩)] w fun e w' => e = .returned (.tuple #[]) ∧ RPost w t base M E (stepF E s).1 ((stepF E s).2 == 44) w' := by
  have hne : s.opn ≠ [] := fun e => by have := hs.o.1 e; omega
  obtain ⟨ol, f, cv, rfl⟩ := rrep_last h hne
  have hlen : ol.length ≤ 99 := by
    have h1 := hs.n
    rw [h.opn] at h1
    simp at h1; omega
  have hf : FrOk E f := hs.fr f (by rw [h.opn]; simp)
  have hxl : s.outs.length ≤ 1000000 := Nat.le_trans hs.xl hL
  cases hb : slotsOk (E.ent f.fn).2
  · exact rstep_o1 w t base M E V ol f cv s mk h hlen hf.fn.1 hf.fn.2 hE.el hE.wl hb
  by_cases hn0 : f.next < 0
  · exact rstep_o2 w t base M E V ol f cv s mk h hlen hf.fn.1 hf.fn.2 hE.el hE.wl hb hn0
  by_cases hn1 : (E.ws.length : Int) ≤ f.next
  · exact rstep_o3 w t base M E V ol f cv s mk h hlen hf.fn.1 hf.fn.2 hE.el hE.wl hb (by omega) hn1
  have hn0' : 0 ≤ f.next := by omega
  have hn1' : f.next < E.ws.length := by omega
  obtain ⟨x, hx⟩ : ∃ x, x = E.ws.getD f.next.toNat W.zero := ⟨_, rfl⟩
  have hok : x.ok := by rw [hx]; exact hE.ws _ (ws_mem hn0' hn1')
  cases hform : formB x
  · exact rstep_p w t base M E V ol f cv s mk h hlen hf.fn.1 hf.fn.2 hE.el hE.wl hb hn0' hn1' x hx hok hform
  have hrg : ∀ j, -9223372036854775808 ≤ f.regs.getD j 0 ∧ f.regs.getD j 0 ≤ 9223372036854775807 := fun j => hf.rg.getD j
  by_cases hD : x.op ≤ 29 ∨ 49 ≤ x.op
  · exact rstep_D w t base M E V ol f cv s mk h hlen hf.fn.1 hf.fn.2 hE.el hE.wl hb hn0' hn1' x hx hrg hs.rd hs.hl hf.yn hxl hE.il hf.ds hok hform hD
  have hop : x.op = 30 ∨ x.op = 31 ∨ x.op = 32 ∨ x.op = 33 ∨ x.op = 34 ∨ x.op = 35 ∨ x.op = 36 ∨ x.op = 37 ∨ x.op = 38 ∨ x.op = 39 ∨ x.op = 40 ∨ x.op = 41 ∨ x.op = 42 ∨ x.op = 43 ∨ x.op = 44 ∨ x.op = 45 ∨ x.op = 46 ∨ x.op = 47 ∨ x.op = 48 := by omega
  clear hD
  rcases hop with ho | ho | ho | ho | ho | ho | ho | ho | ho | ho | ho | ho | ho | ho | ho | ho | ho | ho | ho
  · exact rstep_a w t base M E V ol f cv s mk h hlen hf.fn.1 hf.fn.2 hE.el hE.wl hb hn0' hn1' x hx hrg hs.rd hs.hl hf.yn hxl hE.il hf.ds hok hform (.inl ho)
  · exact rstep_a w t base M E V ol f cv s mk h hlen hf.fn.1 hf.fn.2 hE.el hE.wl hb hn0' hn1' x hx hrg hs.rd hs.hl hf.yn hxl hE.il hf.ds hok hform (.inr (.inl ho))
  · exact rstep_b w t base M E V ol f cv s mk h hlen hf.fn.1 hf.fn.2 hE.el hE.wl hb hn0' hn1' x hx hrg hs.rd hs.hl hf.yn hxl hE.il hf.ds hok hform (.inl ho)
  · exact rstep_b w t base M E V ol f cv s mk h hlen hf.fn.1 hf.fn.2 hE.el hE.wl hb hn0' hn1' x hx hrg hs.rd hs.hl hf.yn hxl hE.il hf.ds hok hform (.inr ho)
  · exact rstep_c w t base M E V ol f cv s mk h hlen hf.fn.1 hf.fn.2 hE.el hE.wl hb hn0' hn1' x hx hrg hs.rd hs.hl hf.yn hxl hE.il hf.ds hok hform (.inl ho)
  · exact rstep_c w t base M E V ol f cv s mk h hlen hf.fn.1 hf.fn.2 hE.el hE.wl hb hn0' hn1' x hx hrg hs.rd hs.hl hf.yn hxl hE.il hf.ds hok hform (.inr (.inl ho))
  · exact rstep_c w t base M E V ol f cv s mk h hlen hf.fn.1 hf.fn.2 hE.el hE.wl hb hn0' hn1' x hx hrg hs.rd hs.hl hf.yn hxl hE.il hf.ds hok hform (.inr (.inr ho))
  · exact rstep_t w t base M E V ol f cv s mk h hlen hf.fn.1 hf.fn.2 hE.el hE.wl hb hn0' hn1' x hx hrg hs.rd hs.hl hf.yn hxl hE.il hf.ds hok hform ho
  · exact rstep_a w t base M E V ol f cv s mk h hlen hf.fn.1 hf.fn.2 hE.el hE.wl hb hn0' hn1' x hx hrg hs.rd hs.hl hf.yn hxl hE.il hf.ds hok hform (.inr (.inr ho))
  · exact rstep_v w t base M E V ol f cv s mk h hlen hf.fn.1 hf.fn.2 hE.el hE.wl hb hn0' hn1' x hx hrg hs.rd hs.hl hf.yn hxl hE.il hf.ds hok hform ho
  · exact rstep_y w t base M E V ol f cv s mk h hlen hf.fn.1 hf.fn.2 hE.el hE.wl hb hn0' hn1' x hx hrg hs.rd hs.hl hf.yn hxl hE.il hf.ds hok hform ho
  · exact rstep_r w t base M E V ol f cv s mk h hlen hf.fn.1 hf.fn.2 hE.el hE.wl hb hn0' hn1' x hx hrg hs.rd hs.hl hf.yn hxl hE.il hf.ds hok hform ho
  · exact rstep_u w t base M E V ol f cv s mk h hlen hf.fn.1 hf.fn.2 hE.el hE.wl hb hn0' hn1' x hx hrg hs.rd hs.hl hf.yn hxl hE.il hf.ds hok hform ho
  · exact rstep_z w t base M E V ol f cv s mk h hlen hf.fn.1 hf.fn.2 hE.el hE.wl hb hn0' hn1' x hx hrg hs.rd hs.hl hf.yn hxl hE.il hf.ds hok hform ho
  · exact rstep_f w t base M E V ol f cv s mk h hlen hf.fn.1 hf.fn.2 hE.el hE.wl hb hn0' hn1' x hx hrg hs.rd hs.hl hf.yn hxl hE.il hf.ds hok hform (.inl ho)
  · exact rstep_f w t base M E V ol f cv s mk h hlen hf.fn.1 hf.fn.2 hE.el hE.wl hb hn0' hn1' x hx hrg hs.rd hs.hl hf.yn hxl hE.il hf.ds hok hform (.inr (.inl ho))
  · exact rstep_f w t base M E V ol f cv s mk h hlen hf.fn.1 hf.fn.2 hE.el hE.wl hb hn0' hn1' x hx hrg hs.rd hs.hl hf.yn hxl hE.il hf.ds hok hform (.inr (.inr ho))
  · exact rstep_s w t base M E V ol f cv s mk h hlen hf.fn.1 hf.fn.2 hE.el hE.wl hb hn0' hn1' x hx hrg hs.rd hs.hl hf.yn hxl hE.il hf.ds hok hform ho
  · exact rstep_w w t base M E V ol f cv s mk h hlen hf.fn.1 hf.fn.2 hE.el hE.wl hb hn0' hn1' x hx hrg hs.rd hs.hl hf.yn hxl hE.il hf.ds hok hform ho
end Go.Proofs.YtnanlkoldloolaaDoor.Mach

/- The document's machine: at its beginning. -/
namespace Go.Proofs.YtnanlkoldloolaaDoor.Mach
open Go.RowKit

theorem rnew_none (w : World) (wv ev dv iv : Value) (m : Int) (el : List (Int × Int)) (he : Rd w 2 ev el.length (entC el)) (hm : m < 0 ∨ (el.length : Int) ≤ m) :
    Calls Tryd.prog 14 #[.agg #[wv, ev, .int .i64 m, dv], iv] w fun e w' => e = .returned (.pointer none) ∧ Below w.heap.size w w' := by
  obtain ⟨ea, ec, rfl⟩ := Rd.shape he
  clear he
  go_enter Tryd.func14, Tryd.ntmps14
  by_cases h0 : m < 0
  · go_wp2_with fail
    go_ret
    exact ⟨rfl, (Below.refl _ _).alloc (Nat.le_refl _) _⟩
  · have h1 : (el.length : Int) ≤ m := by omega
    go_wp2_with fail
    go_ret
    exact ⟨rfl, (Below.refl _ _).alloc (Nat.le_refl _) _⟩
/-- A machine, none of whose calls are open. -/
def noSt : St := ⟨0, 0, 0, [], 0, 0, 0, [], []⟩
def NPost (w : World) (E : Env) (m : Int) (e : Ending) (w' : World) : Prop :=
  ∃ M t V cl, e = .returned (.pointer (some ⟨M, 0, none⟩)) ∧ RRep w' t w.heap.size M E V cl (newF E m) false ∧ Below w.heap.size w w' ∧ ∀ k, k < w.heap.size → t k = 0
theorem rnew_any (w : World) (wv ev dv iv : Value) (m : Nat) (E : Env) (hw : Rd w 5 wv E.ws.length (cW E.ws)) (he : Rd w 2 ev E.es.length (entC E.es)) (hi : Rd w 1 iv E.inp.length (intsV E.inp)) (hd : ∃ a n c, dv = .slice a n c) (hm : m < E.es.length) :
    Calls Tryd.prog 14 #[.agg #[wv, ev, .int .i64 m, dv], iv] w fun e w' => NPost w E m e w' := by
  obtain ⟨wa, wc, hwv⟩ := Rd.shape hw
  obtain ⟨ea, ec, hev⟩ := Rd.shape he
  obtain ⟨ia, ic, hiv⟩ := Rd.shape hi
  obtain ⟨da, dn, dc, hdv⟩ := hd
  subst hwv hev hiv hdv
  have h0 : ¬ ((m : Int) < 0) := by omega
  have h1 : ¬ ((E.es.length : Int) ≤ (m : Int)) := by omega
  have HW := Lib.hid hw
  have HE := Lib.hid he
  have HI := Lib.hid hi
  clear hw he hi
  go_enter Tryd.func14, Tryd.ntmps14
  go_wp2_with fail
  obtain ⟨w2, hw2⟩ : ∃ w2, w2 = ((w.alloc (.cells #[.slice wa E.ws.length wc, .slice ea E.es.length ec, .int .i64 m, .slice da dn dc] 26)).alloc (.cells #[.slice wa E.ws.length wc, .slice ea E.es.length ec, .int .i64 m, .slice da dn dc, .slice ia E.inp.length ic, .slice none 0 0, .slice none 0 0, .int .u8 0, .int .i64 0, .slice none 0 0, .int .i64 0, .int .i64 0, .int .i64 0, .int .i64 0, .bool false] 45)) := ⟨_, rfl⟩
  rw [← hw2]
  have hB : Below w.heap.size w w2 := by rw [hw2]; exact ((Below.refl _ _).alloc (Nat.le_refl _) _).alloc (by simp) _
  have hz2 : w2.heap.size = w.heap.size + 2 := by rw [hw2]; simp
  have hM2 : w2.heap[w.heap.size + 1]? = some (.cells (rC ⟨.slice wa E.ws.length wc, .slice ea E.es.length ec, m, .slice da dn dc, .slice ia E.inp.length ic, .slice none 0 0, .slice none 0 0, .slice none 0 0⟩ noSt false) 45 (0, 0)) := by
    rw [hw2]
    exact (two_alloc w _ _ _ _).2.1
  have hk2 : w2.cell? ⟨w.heap.size, 2, none⟩ = some (.int .i64 m) := by rw [hw2]; simp
  obtain ⟨t0, ht0⟩ : ∃ t0 : Nat → Nat, t0 = upd (fun _ => 0) (w.heap.size + 1) 3 := ⟨_, rfl⟩
  have ht0l : ∀ k, k < w.heap.size → t0 k = 0 := fun k hk => by rw [ht0, upd_ne (by omega)]
  have ht0M : t0 (w.heap.size + 1) = 3 := by rw [ht0]; exact upd_at _ _ _
  have ht0o : ∀ k, k ≠ w.heap.size + 1 → t0 k = 0 := fun k hk => by rw [ht0, upd_ne hk]
  have HR : Hid (RRep w2 t0 w.heap.size (w.heap.size + 1) E ⟨.slice wa E.ws.length wc, .slice ea E.es.length ec, m, .slice da dn dc, .slice ia E.inp.length ic, .slice none 0 0, .slice none 0 0, .slice none 0 0⟩ [] noSt false) := by
    refine ⟨hM2, ht0M, ⟨Rd.later HW.out hB, fun hn k hk => ?_, Rd.later HE.out hB, fun hn k hk => ?_, Rd.later HI.out hB, fun hn k hk => ?_⟩, rfl, Row.nil _ _ _ _ _ _, Row.nil _ _ _ _ _ _, Row.nil _ _ _ _ _ _, fun i p hp => by simp at hp, fun k hk => ?_, fun k hk => ?_⟩
    · rw [ht0l k (Rd.blk HW.out hn (by omega) k hk)]; omega
    · rw [ht0l k (Rd.blk HE.out hn (by omega) k hk)]; omega
    · rw [ht0l k (Rd.blk HI.out hn (by omega) k hk)]; omega
    · by_cases e : k = w.heap.size + 1
      · omega
      · exact absurd (ht0o k e) hk
    · by_cases e : k = w.heap.size + 1
      · omega
      · rw [ht0o k e] at hk; omega
  have HB := Lib.hid hB
  have HT := Lib.hid ht0l
  clear hw2 hB hM2 ht0 ht0M ht0o ht0l
  refine (rbegin_any w2 t0 w.heap.size (w.heap.size + 1) E _ [] noSt false HR.out (by simp) m hm [] (.slice none 0 0) (Row.nil _ _ _ _ _ _) 0).mono ?_
  rintro e w3 ⟨rfl, t3, V3, cv3, R3, F3⟩
  have HR3 := Lib.hid R3
  have HF3 := Lib.hid F3
  clear R3 F3
  go_wp2_with fail
  go_ret
  refine ⟨_, t3, V3, _, rfl, HR3.out, ?_, fun k hk => ?_⟩
  · have F := HF3.out
    refine HB.out.trans ⟨F.os, F.tape, F.output, F.size, fun k hk => F.stay k (by omega) ?_⟩
    rw [HT.out k hk]; omega
  · have h2 := HF3.out.keep k (by omega)
    rw [h2.1 (by rw [HT.out k hk]; omega), HT.out k hk]
end Go.Proofs.YtnanlkoldloolaaDoor.Mach

/- The document's machine: so many steps. -/
namespace Go.Proofs.YtnanlkoldloolaaDoor.Mach
open Go.RowKit

/-- Where a run of k steps is behind j of them. -/
def RunR (w : World) (t : Nat → Nat) (base M : Nat) (E : Env) (L k : Nat) (s : St) (j : Nat) (wr : World) : Prop :=
  ∃ sj mk' t' V' cl', RRep wr t' base M E V' cl' sj mk' ∧ Fx w wr t t' ∧ Sane E (L + j) sj ∧ runF E k s = (j + (runF E (k - j) sj).1, (runF E (k - j) sj).2)
def RunP (w : World) (t : Nat → Nat) (base M : Nat) (E : Env) (L k : Nat) (s : St) (w' : World) : Prop :=
  ∃ mk' t' V' cl', RRep w' t' base M E V' cl' (runF E k s).2 mk' ∧ Fx w w' t t' ∧ Sane E (L + k) (runF E k s).2
theorem runF_step {E : Env} {k : Nat} {s : St} (h : s.end_ = 0) : runF E (k + 1) s = ((runF E k (stepF E s).1).1 + 1, (runF E k (stepF E s).1).2) := by
  have h1 : (s.end_ == 0) = true := by simp [h]
  show (if _ then _ else _) = _
  rw [h1, if_pos rfl]
theorem runF_stop {E : Env} {k : Nat} {s : St} (h : s.end_ ≠ 0) : runF E k s = (0, s) := by
  cases k with
  | zero => rfl
  | succ k =>
    have h1 : (s.end_ == 0) = false := by simpa using h
    show (if _ then _ else _) = _
    rw [h1]; rfl
set_option maxHeartbeats 1000000 in
theorem rrun_any (w : World) (t : Nat → Nat) (base M : Nat) (E : Env) (V : RV) (cl : List (Fr × CV)) (s : St) (mk : Bool) (h : RRep w t base M E V cl s mk) (hE : EnvOk E) (L : Nat) (hs : Sane E L s) (k : Nat) (hk : L + k ≤ 1000000) :
    Calls Tryd.prog 15 #[.pointer (some ⟨M, 0, none⟩), .int .i64 k] w fun e w' => e = .returned (.int .i64 (runF E k s).1) ∧ RunP w t base M E L k s w' := by
  have HS : Hid (RunR w t base M E L k s 0 w) := ⟨s, mk, t, V, cl, h, Fx.refl w t, hs, by simp⟩
  clear h hs
  go_enter Tryd.func15, Tryd.ntmps15
  go_wp2_with fail
  go_loopw [5] (fun n wr => ∃ j : Nat, j ≤ k ∧ n = .int .i64 j ∧ Hid (RunR w t base M E L k s j wr)) (fun n _ => k - (intOf n).toNat)
  case atStart => exact ⟨0, Nat.zero_le _, rfl, HS⟩
  case round =>
    obtain ⟨wa, rfl⟩ : ∃ wa : World, wa = wr := ⟨_, rfl⟩
    obtain ⟨j, hj, rfl, HJ⟩ := hrel
    obtain ⟨sj, mkj, tj, Vj, clj, R0, F0, S0, E0⟩ := HJ.out
    have RJ := Lib.hid R0
    have FJ := Lib.hid F0
    have SJ := Lib.hid S0
    have EJ := Lib.hid E0
    clear R0 F0 S0 E0 HJ HS
    have m7 : wa.cell? ⟨M, 7, none⟩ = some (.int .u8 sj.end_) := (RJ.out.cellM 7).trans (rC_get Vj sj mkj).2.2.2.2.2.1
    by_cases hjk : j < k
    · have hjk' : (j : Int) < (k : Int) := by omega
      by_cases h0 : sj.end_ = 0
      · have hb : (sj.end_ == 0) = true := by rw [h0]; rfl
        have H0 := Lib.hid h0
        clear h0
        go_wp2_with fail
        refine (rstep_any wa tj base M E Vj clj sj mkj RJ.out hE (L + j) SJ.out (by omega) H0.out).mono ?_
        rintro e w2 ⟨rfl, t2, V2, cl2, R2, F2⟩
        have HR2 := Lib.hid R2
        have HF2 := Lib.hid F2
        clear R2 F2
        go_wp2_with fail
        go_roundw
        case rel =>
          refine ⟨j + 1, by omega, by simp, (stepF E sj).1, _, t2, V2, cl2, HR2.out, FJ.out.trans HF2.out, stepF_good hE SJ.out H0.out, ?_⟩
          have e1 : k - j = (k - (j + 1)) + 1 := by omega
          rw [EJ.out, e1, runF_step H0.out]
          simp only [Prod.mk.injEq, and_true]
          omega
        case measure => simp [intOf]; omega
      · have hb : (sj.end_ == 0) = false := by simpa using h0
        have H0 := Lib.hid h0
        clear h0
        go_wp2_with fail
        go_ret
        refine ⟨?_, mkj, tj, Vj, clj, ?_, FJ.out, ?_⟩
        · rw [EJ.out, runF_stop H0.out]; rfl
        · rw [EJ.out, runF_stop H0.out]; exact RJ.out
        · rw [EJ.out, runF_stop H0.out]; exact SJ.out.more (by omega)
    · have hjk' : ¬ ((j : Int) < (k : Int)) := by omega
      have e0 : k - j = 0 := by omega
      have e1 : j = k := by omega
      have HE0 := Lib.hid e0
      have HE1 := Lib.hid e1
      clear e0 e1 hjk
      go_wp2_with fail
      go_ret
      refine ⟨?_, mkj, tj, Vj, clj, ?_, FJ.out, ?_⟩
      · rw [EJ.out, HE0.out]; rfl
      · rw [EJ.out, HE0.out]; exact RJ.out
      · rw [EJ.out, HE0.out]; exact SJ.out.more (by omega)
end Go.Proofs.YtnanlkoldloolaaDoor.Mach
