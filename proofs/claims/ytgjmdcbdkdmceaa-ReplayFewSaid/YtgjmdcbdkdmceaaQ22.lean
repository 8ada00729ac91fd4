/- The machine, loaded. -/
import Derived.Test.YtgjmdcbdkdmceaaQJh
import Derived.Test.YtgjmdcbdkdmceaaQJk
import Derived.Test.YtgjmdcbdkdmceaaQIc
import Derived.Test.YtgjmdcbdkdmceaaQIg
import Derived.Test.YtgjmdcbdkdmceaaQ13
import Derived.Test.YtgjmdcbdkdmceaaQHa
import Derived.Test.YtgjmdcbdkdmceaaQ19
namespace Go.Proofs.Ytgjmdcbdkdmceaa.Mach
open Go.RowKit

/-- The machine that the bytes are, if they are one's. -/
def loadF (E : Env) (m : Int) (p : List Int) : Option St :=
  if (allF p (newF E m)).2.1 = false ∧ (allF p (newF E m)).2.2 = [] ∧ soundF E (allF p (newF E m)).1 = true then some (allF p (newF E m)).1 else none
/-- What Load leaves. -/
def LoadP (w : World) (E : Env) (r : Option St) (e : Ending) (w' : World) : Prop :=
  (r = none ∧ e = .returned (.tuple #[.pointer none, .int .i64 3]) ∧ Below w.heap.size w w') ∨
  ∃ s M t base V cl, r = some s ∧ e = .returned (.tuple #[.pointer (some ⟨M, 0, none⟩), .int .i64 0]) ∧ MRep w' t base M E V cl s ∧ Below w.heap.size w w' ∧ ∀ k, k < w.heap.size → t k = 0
set_option maxRecDepth 100000 in
set_option maxHeartbeats 4000000 in
theorem mload_any (wv0 ev0 dv0 iv0 pv0 : Value) (E : Env) (m : Nat) (dn : Nat) (dx : List Value) (p : List Int) (w : World) (hW : Rd w 5 wv0 E.ws.length (cW E.ws)) (hE : Rd w 2 ev0 E.es.length (entC E.es)) (hD : Rd w 1 dv0 dn dx) (hD1 : ∀ u ∈ dx, u.oneCell' = true) (hI : Rd w 1 iv0 E.inp.length (intsV E.inp)) (hP : RdB w pv0 p) (hB : isB p) (hm : m < E.es.length)
    (bW : E.ws.length * 16 ≤ 140737488355328) (bE : E.es.length * 16 ≤ 140737488355328) (bD : dn * 1 ≤ 140737488355328) (bI : E.inp.length * 8 ≤ 140737488355328) (bP : p.length ≤ 140737488355328) :
    Calls Try.prog 52 #[.agg #[wv0, ev0, .int .i64 m, dv0], iv0, pv0] w fun e w' => LoadP w E (loadF E m p) e w' := by
  have HN := Lib.hid (fun W (hb : Below w.heap.size w W) => mnew_any wv0 ev0 dv0 iv0 E m dn dx W (Rd.later hW hb) (Rd.later hE hb) (Rd.later hD hb) hD1 (Rd.later hI hb) hm bW bE bD bI)
  have hpb : 0 < p.length → ∀ k, pv0.ownBlock = some k → k < w.heap.size := fun hn k hk => Rd.blk hP hn (by omega) k hk
  obtain ⟨wa0, wc0, rfl⟩ := Rd.shape hW
  obtain ⟨ea0, ec0, rfl⟩ := Rd.shape hE
  obtain ⟨da0, dc0, rfl⟩ := Rd.shape hD
  obtain ⟨ia0, ic0, rfl⟩ := Rd.shape hI
  obtain ⟨pa0, pc0, rfl⟩ := Rd.shape hP
  have HP := Lib.hid (And.intro hP (And.intro hpb hB))
  clear hW hE hD hD1 hI hP hpb hB
  go_enter Try.func52, Try.ntmps52
  go_wp2_with fail
  obtain ⟨wA, hwA⟩ : ∃ wA, wA = w.alloc (.cells #[.slice wa0 E.ws.length wc0, .slice ea0 E.es.length ec0, .int .i64 m, .slice da0 dn dc0] 26) := ⟨_, rfl⟩
  rw [← hwA]
  have hbA : Below w.heap.size w wA := by rw [hwA]; exact (Below.refl _ _).alloc (Nat.le_refl _) _
  have HBA := Lib.hid hbA
  clear hwA
  refine (HN.out wA hbA).mono ?_
  rintro e w1 hN
  obtain ⟨M, t, V, cl, rfl, hR, hb1, hlow, -⟩ := hN
  have hsA := hbA.size
  clear hbA
  have HR := Lib.hid hR
  have HB1 := Lib.hid hb1
  have HLOW := Lib.hid hlow
  clear hR hb1 hlow HN
  go_wp2_with fail
  obtain ⟨w2, hw2⟩ : ∃ w2, w2 = w1.alloc (.cells #[.slice pa0 p.length pc0, .bool true, .bool false] 96) := ⟨_, rfl⟩
  rw [← hw2]
  have hb2 : Below w1.heap.size w1 w2 := by rw [hw2]; exact (Below.refl _ _).alloc (Nat.le_refl _) _
  have hx2 : w2.heap[w1.heap.size]? = some (.cells #[.slice pa0 p.length pc0, .bool true, .bool false] 96 (0, 0)) := by rw [hw2]; exact heap_alloc_new _ _
  have hs1 := HB1.out.size
  have htB : t w1.heap.size = 0 := by
    rcases Nat.eq_zero_or_pos (t w1.heap.size) with e | e
    · exact e
    · have := HR.out.lt w1.heap.size (by omega)
      omega
  have H2 : Hid (RdM wA w2 wA.heap.size w1.heap.size M E false p t V cl (newF E m)) := Lib.hid ⟨HR.out.below hb2, ⟨⟨_, hx2, Rd.later HP.out.1 (HBA.out.trans ((HB1.out.trans (hb2.mono hs1)).mono hsA)), fun hn k hk => Nat.lt_of_lt_of_le (HP.out.2.1 hn k hk) hsA⟩, HP.out.2.2, HB1.out.trans (hb2.mono hs1), hs1⟩, htB, fun k hk => by
    rcases Nat.lt_or_ge k wA.heap.size with h | h
    · exact absurd (HLOW.out k h) hk
    · exact h⟩
  clear hw2 hb2 hx2 htB HR
  refine (tall_r wA w2 wA.heap.size w1.heap.size M E p t V cl (newF E m) H2.out bP).mono ?_
  rintro e w3 ⟨rfl, t3, V3, cl3, hR3⟩
  obtain ⟨r, hr⟩ : ∃ r, r = allF p (newF E m) := ⟨_, rfl⟩
  rw [← hr] at hR3
  obtain ⟨pv3, ht3, hp3, -⟩ := hR3.tap.ht
  obtain ⟨pa3, pc3, rfl⟩ := Rd.shape hp3
  have x0 : w3.cell? ⟨w1.heap.size, 0, none⟩ = some (.slice pa3 r.2.2.length pc3) := by simp [World.cell?, ht3]
  have x2 : w3.cell? ⟨w1.heap.size, 2, none⟩ = some (.bool r.2.1) := by simp [World.cell?, ht3]
  have H3 := Lib.hid hR3
  have HRR := Lib.hid hr
  have HLF : Hid (loadF E m p = if r.2.1 = false ∧ r.2.2 = [] ∧ soundF E r.1 = true then some r.1 else none) := Lib.hid (by rw [loadF, ← hr])
  clear hR3 ht3 hp3 H2 hr
  have hb3 : Below w.heap.size w w3 := HBA.out.trans (H3.out.tap.bel.mono hsA)
  have HB3 := Lib.hid hb3
  clear hb3
  obtain ⟨b, hb⟩ : ∃ b, b = r.2.1 := ⟨_, rfl⟩
  rw [← hb] at x2
  cases b
  · obtain ⟨q, hq⟩ : ∃ q, q = r.2.2 := ⟨_, rfl⟩
    rw [← hq] at x0
    cases q with
    | nil =>
      have HS := Lib.hid (msound_any w3 t3 wA.heap.size M E V3 cl3 r.1 H3.out.rep)
      simp only [List.length_nil] at x0
      obtain ⟨so, hso⟩ : ∃ so, so = soundF E r.1 := ⟨_, rfl⟩
      rw [← hso] at HS
      have HL : Hid (loadF E m p = if so = true then some r.1 else none) := Lib.hid (by rw [HLF.out, ← hb, ← hq, ← hso]; simp)
      clear HLF HRR hb hq hso
      go_wp2_with fail
      refine HS.out.mono ?_
      rintro e w4 ⟨rfl, hb4⟩
      have HB4 := Lib.hid hb4
      clear hb4 HS
      cases so
      · go_wp2_with fail
        go_ret2
        exact .inl ⟨by rw [HL.out]; rfl, rfl, HB3.out.trans (HB4.out.mono HB3.out.size)⟩
      · go_wp2_with fail
        go_ret2
        exact .inr ⟨r.1, M, t3, wA.heap.size, V3, cl3, by rw [HL.out]; rfl, rfl, H3.out.rep.below HB4.out, HB3.out.trans (HB4.out.mono HB3.out.size), fun k hk => by
          rcases Nat.eq_zero_or_pos (t3 k) with e | e
          · exact e
          · have := H3.out.low k (by omega)
            omega⟩
    | cons y q =>
      have HL : Hid (loadF E m p = none) := Lib.hid (by rw [HLF.out, ← hq, if_neg (by simp)])
      clear HLF HRR hb hq
      have hq0 : 0 < (y :: q).length := by simp
      obtain ⟨n, hn⟩ : ∃ n, n = (y :: q).length := ⟨_, rfl⟩
      rw [← hn] at x0 hq0
      clear hn
      go_wp2_with fail
      go_ret2
      exact .inl ⟨HL.out, rfl, HB3.out⟩
  · have HL : Hid (loadF E m p = none) := Lib.hid (by rw [HLF.out, ← hb, if_neg (by simp)])
    clear HLF HRR hb
    go_wp2_with fail
    go_ret2
    exact .inl ⟨HL.out, rfl, HB3.out⟩
end Go.Proofs.Ytgjmdcbdkdmceaa.Mach

/- What is saved: its bytes are bytes; the law's comparison of them. -/
namespace Go.Proofs.Ytgjmdcbdkdmceaa.Mach
open Go.RowKit

theorem isB_app {l m : List Int} (h : isB l) (k : isB m) : isB (l ++ m) := fun x hx => (List.mem_append.1 hx).elim (h x) (k x)
theorem isB_flat {α : Type} {l : List α} {f : α → List Int} (h : ∀ a ∈ l, isB (f a)) : isB (l.flatMap f) := fun x hx => by
  obtain ⟨a, ha, hxa⟩ := List.mem_flatMap.1 hx
  exact h a ha x hxa
theorem isB_bytes (x : Int) (n : Nat) : isB (bytesL x n) := by
  intro y hy
  unfold bytesL at hy
  obtain ⟨i, -, rfl⟩ := List.mem_map.1 hy
  omega
theorem isB_list (l : List Int) : isB (listB l) := isB_app (isB_bytes _ _) (isB_flat fun a _ => isB_bytes a 8)
theorem isB_save (s : St) : isB (saveB s) := by
  unfold saveB headB
  exact isB_app (isB_app (isB_app (isB_app (isB_app (isB_app (isB_app (isB_app (isB_app (isB_bytes _ _) (isB_bytes _ _)) (isB_bytes _ _)) (isB_list _)) (isB_bytes _ _)) (isB_bytes _ _)) (isB_bytes _ _)) (isB_list _)) (isB_bytes _ _))
    (isB_flat fun f _ => isB_app (isB_app (isB_app (isB_app (isB_app (isB_app (isB_bytes _ _) (isB_bytes _ _)) (isB_bytes _ _)) (isB_flat fun a _ => isB_bytes a 8)) (isB_list _)) (isB_list _)) (isB_list _))
set_option maxHeartbeats 1000000 in
theorem msame_any (v1 v2 : Value) (l m : List Int) (w : World) (h1 : RdB w v1 l) (h2 : RdB w v2 m) (b1 : isB l) (b2 : isB m) :
    Calls Try.prog 19 #[v1, v2] w fun e w' => e = .returned (.bool (eqL l m)) ∧ w = w' := by
  have k1 := run_convert_rdB (P := Try.prog) h1 Try.underlying24 Try.underlying5 (dst := 9) Try.underlying9
  have k2 := run_convert_rdB (P := Try.prog) h2 Try.underlying24 Try.underlying5 (dst := 9) Try.underlying9
  have HE : Hid _ := eqL_str b1 b2
  clear h1 h2 b1 b2
  go_enter Try.func19, Try.ntmps19
  go_wp2_with fail
  go_ret
  exact ⟨ret_bool HE.out, rfl⟩
theorem eqL_self (l : List Int) : eqL l l = true := by simp [eqL]
end Go.Proofs.Ytgjmdcbdkdmceaa.Mach

/- A machine's bytes: they are read again as they were; what is read has just these bytes. No program in sight. -/
namespace Go.Proofs.Ytgjmdcbdkdmceaa.Mach
open Go.RowKit

/-! ### what was written is read again -/
theorem vB_bytes {x : Int} (h : i64 x) (r : List Int) : vB (bytesL x 8 ++ r) 8 = x := by
  unfold vB
  rw [List.take_append_of_le_length (by rw [bytesL_length]; exact Nat.le_refl _), List.take_of_length_le (by rw [bytesL_length]; exact Nat.le_refl _), valL_bytesL]
  have e : (256 : Int) ^ 8 = 18446744073709551616 := by decide
  rw [e]
  unfold wrap64
  unfold i64 at h
  omega
theorem numF_bytes {x : Int} (h : i64 x) (b : Bool) (r : List Int) : numF b (bytesL x 8 ++ r) = (x, b, r) := by
  rw [numF_long (by rw [List.length_append, bytesL_length]; omega), vB_bytes h, List.drop_left' (bytesL_length _ _)]
theorem shortF_bytes {x : Int} (h : 0 ≤ x ∧ x ≤ 255) (b : Bool) (r : List Int) : shortF b (bytesL x 8 ++ r) = (x, b, r) := by
  rw [shortF, numF_bytes ⟨by omega, by omega⟩]
  have h1 : decide (x < 0) = false := decide_eq_false (by omega)
  have h2 : decide (255 < x) = false := decide_eq_false (by omega)
  have h3 : IntKind.u8.wrap x = x := by rw [IntKind.wrap_u8']; omega
  simp only [h1, h2, h3, Bool.or_false]
def flatB (l : List Int) : List Int := l.flatMap fun x => bytesL x 8
theorem flatB_snoc (l : List Int) (x : Int) : flatB (l ++ [x]) = flatB l ++ bytesL x 8 := by simp [flatB]
theorem listB_eq (l : List Int) : listB l = bytesL l.length 8 ++ flatB l := rfl
theorem numsF_bytes (n : Nat) (l : List Int) (hn : l.length = n) (h : I64s l) (b : Bool) (r : List Int) : numsF n b (flatB l ++ r) = (l, b, r) := by
  induction n generalizing l r with
  | zero =>
    obtain rfl := List.eq_nil_of_length_eq_zero hn
    rfl
  | succ n ih =>
    rcases List.eq_nil_or_concat l with e | ⟨l', x, e⟩
    · rw [e] at hn; simp at hn
    · rw [List.concat_eq_append] at e
      subst e
      have hn' : l'.length = n := by simpa using hn
      have e2 : flatB (l' ++ [x]) ++ r = flatB l' ++ (bytesL x 8 ++ r) := by rw [flatB_snoc, List.append_assoc]
      rw [e2, numsF, ih l' hn' (fun y hy => h y (by simp [hy])) (bytesL x 8 ++ r)]
      dsimp only
      rw [numF_bytes (h x (by simp))]
theorem listF_bytes {l : List Int} (h : I64s l) (hl : l.length ≤ 9223372036854775807) (b : Bool) (r : List Int) : listF b (listB l ++ r) = (some l, b, r) := by
  have e : listB l ++ r = bytesL l.length 8 ++ (flatB l ++ r) := by rw [listB_eq, List.append_assoc]
  have h8 : (flatB l).length = 8 * l.length := flat8 l
  unfold listF
  rw [e, numF_bytes (i64_nat hl)]
  dsimp only
  have hge : l.length ≤ (flatB l ++ r).length / 8 := by rw [List.length_append, h8]; omega
  rw [if_neg (by omega), Int.toNat_natCast, numsF_bytes _ l rfl h]
theorem frF_bytes {E : Env} {f : Fr} (h : FrOk E f) (hel : E.es.length ≤ 1000000) (b : Bool) (r : List Int) : frF b (frB f ++ r) = (f, b, r) := by
  have hs : f.slots.length ≤ 60000 := by
    rw [h.sn]; unfold slotsN; split
    · rename_i h; simp [slotsOk] at h; omega
    · omega
  have ha := h.an
  have hy := h.yn
  have hf := h.fn
  have hd := h.ds
  have e : frB f ++ r = bytesL f.fn 8 ++ (bytesL f.next 8 ++ (bytesL f.dst 8 ++ (flatB f.regs ++ (listB f.slots ++ (listB f.args ++ (listB f.ready ++ r)))))) := by simp only [frB, flatB, List.append_assoc]
  rw [e, frF_of (numF_bytes ⟨by omega, by omega⟩ _ _).symm (numF_bytes h.nx _ _).symm (shortF_bytes ⟨by omega, by omega⟩ _ _).symm (numsF_bytes 16 f.regs h.rl h.rg _ _).symm (listF_bytes h.sl (by omega) _ _).symm (listF_bytes h.ar (by omega) _ _).symm (listF_bytes h.yr (by omega) _ _).symm]
  rfl
theorem frsF_bytes {E : Env} (hel : E.es.length ≤ 1000000) (n : Nat) (l : List Fr) (hn : l.length = n) (h : ∀ f ∈ l, FrOk E f) (b : Bool) (r : List Int) : frsF n b (l.flatMap frB ++ r) = (l, b, r) := by
  induction n generalizing l r with
  | zero =>
    obtain rfl := List.eq_nil_of_length_eq_zero hn
    rfl
  | succ n ih =>
    rcases List.eq_nil_or_concat l with e | ⟨l', x, e⟩
    · rw [e] at hn; simp at hn
    · rw [List.concat_eq_append] at e
      subst e
      have hn' : l'.length = n := by simpa using hn
      have e2 : (l' ++ [x]).flatMap frB ++ r = l'.flatMap frB ++ (frB x ++ r) := by simp
      rw [e2, frsF, ih l' hn' (fun y hy => h y (by simp [hy])) (frB x ++ r)]
      dsimp only
      rw [frF_bytes (h x (by simp)) hel]
theorem allF_of {p : List Int} {s : St} {r1 r2 r3 : Int × Bool × List Int} {r4 : Option (List Int) × Bool × List Int} {r5 r6 r7 : Int × Bool × List Int} {r8 : Option (List Int) × Bool × List Int} {r9 : Int × Bool × List Int} (h1 : r1 = numF false p) (h2 : r2 = shortF r1.2.1 r1.2.2) (h3 : r3 = numF r2.2.1 r2.2.2) (h4 : r4 = listF r3.2.1 r3.2.2) (h5 : r5 = numF r4.2.1 r4.2.2) (h6 : r6 = numF r5.2.1 r5.2.2) (h7 : r7 = numF r6.2.1 r6.2.2) (h8 : r8 = listF r7.2.1 r7.2.2) (h9 : r9 = numF r8.2.1 r8.2.2) :
    allF p s = if r9.1 < 0 ∨ 100 < r9.1 then ({ s with steps := r1.1, end_ := r2.1, exit := r3.1, outs := r4.1.getD s.outs, read := r5.1, marks := r6.1, at_ := r7.1, heap := r8.1.getD s.heap }, true, r9.2.2)
      else ({ s with steps := r1.1, end_ := r2.1, exit := r3.1, outs := r4.1.getD s.outs, read := r5.1, marks := r6.1, at_ := r7.1, heap := r8.1.getD s.heap, opn := (frsF r9.1.toNat r9.2.1 r9.2.2).1 }, (frsF r9.1.toNat r9.2.1 r9.2.2).2) := by
  unfold allF
  dsimp only
  rw [← h1, ← h2, ← h3, ← h4, ← h5, ← h6, ← h7, ← h8, ← h9]
theorem allF_bytes {E : Env} {L : Nat} {s : St} (h : Sane E L s) (hel : E.es.length ≤ 1000000) (hil : E.inp.length ≤ 9223372036854775807) (hL : L ≤ 1000000) (s0 : St) : allF (saveB s) s0 = (s, false, []) := by
  have hn := h.n
  have hx := h.xl
  have hh := h.hl
  have hr := h.rd
  have he := h.en
  have e : saveB s = bytesL s.steps 8 ++ (bytesL s.end_ 8 ++ (bytesL s.exit 8 ++ (listB s.outs ++ (bytesL s.read 8 ++ (bytesL s.marks 8 ++ (bytesL s.at_ 8 ++ (listB s.heap ++ (bytesL s.opn.length 8 ++ (s.opn.flatMap frB ++ []))))))))) := by simp only [saveB, headB, List.append_assoc, List.append_nil]
  rw [e, allF_of (s := s0) (numF_bytes h.st _ _).symm (shortF_bytes ⟨by omega, by omega⟩ _ _).symm (numF_bytes h.ex _ _).symm (listF_bytes h.xs (by omega) _ _).symm (numF_bytes ⟨by omega, by omega⟩ _ _).symm (numF_bytes h.ms _ _).symm (numF_bytes h.at_ _ _).symm (listF_bytes h.hp (by omega) _ _).symm (numF_bytes (i64_nat (by omega)) _ _).symm]
  dsimp only
  rw [if_neg (by omega), Int.toNat_natCast, frsF_bytes hel _ s.opn rfl h.fr]
  rfl
theorem sound_of_sane {E : Env} {L : Nat} {s : St} (h : Sane E L s) : soundF E s = true := by
  have hh := h.hl
  have hr := h.rd
  have he := h.en
  have h5 := h.e5
  have ho := h.o
  have hfr : s.opn.all (frSound E) = true := by
    rw [List.all_eq_true]
    intro f hf
    have g := h.fr f hf
    have g1 := g.fn
    have g2 := g.ds
    have g3 := g.an
    have g4 := g.yn
    have g5 := g.sn
    unfold frSound
    simp only [Bool.and_eq_true, decide_eq_true_eq]
    exact ⟨⟨⟨⟨⟨by omega, by omega⟩, by omega⟩, by omega⟩, by omega⟩, g5⟩
  have hop : (s.opn.isEmpty == (s.end_ == 1)) = true := by
    by_cases h1 : s.end_ = 1
    · rw [ho.2 h1, h1]; rfl
    · have h2 : s.opn ≠ [] := fun e => h1 (ho.1 e)
      have h3 : (s.end_ == 1) = false := by simpa using h1
      have h4 : s.opn.isEmpty = false := by simpa using h2
      rw [h3, h4]; rfl
  unfold soundF
  rw [hfr, hop]
  simp only [Bool.and_true, Bool.and_eq_true, decide_eq_true_eq, bne_iff_ne, ne_eq]
  exact ⟨⟨⟨⟨by omega, by omega⟩, by omega⟩, by omega⟩, h5⟩
/-- A machine that was saved is loaded as it was. -/
theorem loadF_save {E : Env} {L : Nat} {s : St} (h : Sane E L s) (hE : EnvOk E) (hL : L ≤ 1000000) (m : Int) : loadF E m (saveB s) = some s := by
  unfold loadF
  rw [allF_bytes h hE.el hE.il hL, if_pos ⟨rfl, rfl, sound_of_sane h⟩]

/-! ### what is read has just these bytes -/
theorem isB_right {l m : List Int} (h : isB (l ++ m)) : isB m := fun x hx => h x (List.mem_append_right _ hx)
theorem numF_inv {b : Bool} {p : List Int} {r : Int × Bool × List Int} (hr : r = numF b p) (hp : isB p) (h : r.2.1 = false) : b = false ∧ i64 r.1 ∧ p = bytesL r.1 8 ++ r.2.2 ∧ isB r.2.2 := by
  subst hr
  by_cases h8 : p.length < 8
  · rw [numF_short h8] at h; cases h
  · rw [numF_long h8] at h ⊢
    refine ⟨h, i64_wrap _, ?_, fun x hx => hp x (List.mem_of_mem_drop hx)⟩
    show p = bytesL (wrap64 (valL (p.take 8))) 8 ++ p.drop 8
    have hl : (p.take 8).length = 8 := by rw [List.length_take]; omega
    have e1 : bytesL (valL (p.take 8)) 8 = p.take 8 := by
      have := bytesL_val (p.take 8) (fun x hx => hp x (List.mem_of_mem_take hx))
      rw [hl] at this
      exact this
    have e2 : bytesL (wrap64 (valL (p.take 8))) 8 = bytesL (valL (p.take 8)) 8 := bytesL_congr _ _ _ (by
      have e : (256 : Int) ^ 8 = 18446744073709551616 := by decide
      rw [e]
      unfold wrap64
      omega)
    rw [e2, e1, List.take_append_drop]
theorem shortF_inv {b : Bool} {p : List Int} {r : Int × Bool × List Int} (hr : r = shortF b p) (hp : isB p) (h : r.2.1 = false) : b = false ∧ (0 ≤ r.1 ∧ r.1 ≤ 255) ∧ p = bytesL r.1 8 ++ r.2.2 ∧ isB r.2.2 := by
  subst hr
  obtain ⟨q, hq⟩ : ∃ q, q = numF b p := ⟨_, rfl⟩
  unfold shortF at h ⊢
  rw [← hq] at h ⊢
  simp only [Bool.or_eq_false_iff, decide_eq_false_iff_not] at h
  obtain ⟨⟨h1, h2⟩, h3⟩ := h
  obtain ⟨g1, g2, g3, g4⟩ := numF_inv hq hp h1
  have h3 : IntKind.u8.wrap q.1 = q.1 := by rw [IntKind.wrap_u8']; omega
  dsimp only
  rw [h3]
  exact ⟨g1, ⟨by omega, by omega⟩, g3, g4⟩
theorem numsF_inv (n : Nat) {b : Bool} {p : List Int} {r : List Int × Bool × List Int} (hr : r = numsF n b p) (hp : isB p) (h : r.2.1 = false) : b = false ∧ I64s r.1 ∧ r.1.length = n ∧ p = flatB r.1 ++ r.2.2 ∧ isB r.2.2 := by
  induction n generalizing r with
  | zero =>
    subst hr
    exact ⟨h, I64s.nil, rfl, rfl, hp⟩
  | succ n ih =>
    obtain ⟨q, hq⟩ : ∃ q, q = numsF n b p := ⟨_, rfl⟩
    obtain ⟨u, hu⟩ : ∃ u, u = numF q.2.1 q.2.2 := ⟨_, rfl⟩
    have e : r = (q.1 ++ [u.1], u.2) := by rw [hr, numsF, ← hq, ← hu]
    subst e
    by_cases hqb : q.2.1 = false
    · obtain ⟨g1, g2, g3, g4, g5⟩ := ih hq hqb
      obtain ⟨k1, k2, k3, k4⟩ := numF_inv hu g5 h
      refine ⟨g1, g2.snoc k2, by simp [g3], ?_, k4⟩
      show p = flatB (q.1 ++ [u.1]) ++ u.2.2
      rw [flatB_snoc, List.append_assoc, ← k3, ← g4]
    · exfalso
      have hqb' : q.2.1 = true := by simpa using hqb
      have : u.2.1 = true := by
        rw [hu, hqb']
        unfold numF
        split <;> rfl
      have h' : u.2.1 = false := h
      rw [this] at h'; cases h'
theorem listF_inv {b : Bool} {p : List Int} {r : Option (List Int) × Bool × List Int} (hr : r = listF b p) (hp : isB p) (h : r.2.1 = false) : b = false ∧ ∃ l, r.1 = some l ∧ I64s l ∧ 8 * l.length ≤ p.length ∧ p = listB l ++ r.2.2 ∧ isB r.2.2 := by
  subst hr
  obtain ⟨q, hq⟩ : ∃ q, q = numF b p := ⟨_, rfl⟩
  unfold listF at h ⊢
  rw [← hq] at h ⊢
  by_cases hc : q.1 < 0 ∨ ((q.2.2.length / 8 : Nat) : Int) < q.1
  · rw [if_pos hc] at h; cases h
  · rw [if_neg hc] at h ⊢
    obtain ⟨u, hu⟩ : ∃ u, u = numsF q.1.toNat q.2.1 q.2.2 := ⟨_, rfl⟩
    rw [← hu] at h ⊢
    dsimp only at h ⊢
    have hq0 : q.2.1 = false := by
      cases hqb : q.2.1 with
      | false => rfl
      | true =>
        exfalso
        have key : ∀ n p', (numsF n true p').2.1 = true := fun n p' => by
          induction n with
          | zero => rfl
          | succ n ih =>
            show (numF (numsF n true p').2.1 _).2.1 = true
            rw [ih]
            unfold numF
            split <;> rfl
        rw [hu, hqb, key] at h
        cases h
    obtain ⟨g1, g2, g3, g4⟩ := numF_inv hq hp hq0
    obtain ⟨k1, k2, k3, k4, k5⟩ := numsF_inv _ hu g4 h
    have hn : q.1 = (u.1.length : Int) := by rw [k3]; omega
    refine ⟨g1, u.1, rfl, k2, ?_, ?_, k5⟩
    · have h1 := congrArg List.length g3
      have h2 := congrArg List.length k4
      have h8 : (flatB u.1).length = 8 * u.1.length := flat8 u.1
      rw [List.length_append, bytesL_length] at h1
      rw [List.length_append, h8] at h2
      omega
    · rw [listB_eq, List.append_assoc, ← k4, ← hn, ← g3]
theorem numF_b {b : Bool} {p : List Int} {r : Int × Bool × List Int} (hr : r = numF b p) (h : r.2.1 = false) : b = false := by
  subst hr
  unfold numF at h
  split at h
  · cases h
  · exact h
theorem shortF_b {b : Bool} {p : List Int} {r : Int × Bool × List Int} (hr : r = shortF b p) (h : r.2.1 = false) : b = false := by
  subst hr
  unfold shortF at h
  simp only [Bool.or_eq_false_iff] at h
  exact numF_b rfl h.1.1
theorem numsF_b (n : Nat) {b : Bool} {p : List Int} {r : List Int × Bool × List Int} (hr : r = numsF n b p) (h : r.2.1 = false) : b = false := by
  induction n generalizing r with
  | zero => subst hr; exact h
  | succ n ih =>
    subst hr
    exact ih rfl (numF_b (r := numF (numsF n b p).2.1 (numsF n b p).2.2) rfl h)
theorem listF_b {b : Bool} {p : List Int} {r : Option (List Int) × Bool × List Int} (hr : r = listF b p) (h : r.2.1 = false) : b = false := by
  subst hr
  unfold listF at h
  split at h
  · cases h
  · exact numF_b rfl (numsF_b _ rfl h)
/-- What holds of a call that was read. -/
structure FrR (f : Fr) : Prop where
  fn : i64 f.fn
  nx : i64 f.next
  rl : f.regs.length = 16
  rg : I64s f.regs
  sl : I64s f.slots
  ar : I64s f.args
  yr : I64s f.ready
  ds : 0 ≤ f.dst
theorem frF_inv {b : Bool} {p : List Int} {r : Fr × Bool × List Int} (hr : r = frF b p) (hp : isB p) (h : r.2.1 = false) : b = false ∧ FrR r.1 ∧ p = frB r.1 ++ r.2.2 ∧ isB r.2.2 := by
  obtain ⟨r1, h1⟩ : ∃ r, r = numF b p := ⟨_, rfl⟩
  obtain ⟨r2, h2⟩ : ∃ r, r = numF r1.2.1 r1.2.2 := ⟨_, rfl⟩
  obtain ⟨r3, h3⟩ : ∃ r, r = shortF r2.2.1 r2.2.2 := ⟨_, rfl⟩
  obtain ⟨r4, h4⟩ : ∃ r, r = numsF 16 r3.2.1 r3.2.2 := ⟨_, rfl⟩
  obtain ⟨r5, h5⟩ : ∃ r, r = listF r4.2.1 r4.2.2 := ⟨_, rfl⟩
  obtain ⟨r6, h6⟩ : ∃ r, r = listF r5.2.1 r5.2.2 := ⟨_, rfl⟩
  obtain ⟨r7, h7⟩ : ∃ r, r = listF r6.2.1 r6.2.2 := ⟨_, rfl⟩
  rw [frF_of h1 h2 h3 h4 h5 h6 h7] at hr
  subst hr
  have h : r7.2.1 = false := h
  have b6 := listF_b h7 h
  have b5 := listF_b h6 b6
  have b4 := listF_b h5 b5
  have b3 := numsF_b _ h4 b4
  have b2 := shortF_b h3 b3
  have b1 := numF_b h2 b2
  obtain ⟨g0, g1, g2, g3⟩ := numF_inv h1 hp b1
  obtain ⟨-, k1, k2, k3⟩ := numF_inv h2 g3 b2
  obtain ⟨-, l1, l2, l3⟩ := shortF_inv h3 k3 b3
  obtain ⟨-, m1, m2, m3, m4⟩ := numsF_inv _ h4 l3 b4
  obtain ⟨-, n, n1, n2, -, n3, n4⟩ := listF_inv h5 m4 b5
  obtain ⟨-, o, o1, o2, -, o3, o4⟩ := listF_inv h6 n4 b6
  obtain ⟨-, q, q1, q2, -, q3, q4⟩ := listF_inv h7 o4 h
  dsimp only
  rw [n1, o1, q1]
  refine ⟨g0, ⟨g1, k1, m2, m1, n2, o2, q2, l1.1⟩, ?_, q4⟩
  show p = frB ⟨r1.1, r2.1, r4.1, n, o, q, r3.1⟩ ++ r7.2.2
  have e : frB ⟨r1.1, r2.1, r4.1, n, o, q, r3.1⟩ ++ r7.2.2 = bytesL r1.1 8 ++ (bytesL r2.1 8 ++ (bytesL r3.1 8 ++ (flatB r4.1 ++ (listB n ++ (listB o ++ (listB q ++ r7.2.2)))))) := by simp only [frB, flatB, List.append_assoc]
  rw [e, ← q3, ← o3, ← n3, ← m3, ← l2, ← k2, ← g2]
theorem frF_b {b : Bool} {p : List Int} {r : Fr × Bool × List Int} (hr : r = frF b p) (h : r.2.1 = false) : b = false := by
  obtain ⟨r1, h1⟩ : ∃ r, r = numF b p := ⟨_, rfl⟩
  obtain ⟨r2, h2⟩ : ∃ r, r = numF r1.2.1 r1.2.2 := ⟨_, rfl⟩
  obtain ⟨r3, h3⟩ : ∃ r, r = shortF r2.2.1 r2.2.2 := ⟨_, rfl⟩
  obtain ⟨r4, h4⟩ : ∃ r, r = numsF 16 r3.2.1 r3.2.2 := ⟨_, rfl⟩
  obtain ⟨r5, h5⟩ : ∃ r, r = listF r4.2.1 r4.2.2 := ⟨_, rfl⟩
  obtain ⟨r6, h6⟩ : ∃ r, r = listF r5.2.1 r5.2.2 := ⟨_, rfl⟩
  obtain ⟨r7, h7⟩ : ∃ r, r = listF r6.2.1 r6.2.2 := ⟨_, rfl⟩
  rw [frF_of h1 h2 h3 h4 h5 h6 h7] at hr
  subst hr
  have h : r7.2.1 = false := h
  exact numF_b h1 (numF_b h2 (shortF_b h3 (numsF_b _ h4 (listF_b h5 (listF_b h6 (listF_b h7 h))))))
theorem frsF_b (n : Nat) {b : Bool} {p : List Int} {r : List Fr × Bool × List Int} (hr : r = frsF n b p) (h : r.2.1 = false) : b = false := by
  induction n generalizing r with
  | zero => subst hr; exact h
  | succ n ih =>
    obtain ⟨q, hq⟩ : ∃ q, q = frsF n b p := ⟨_, rfl⟩
    obtain ⟨u, hu⟩ : ∃ u, u = frF q.2.1 q.2.2 := ⟨_, rfl⟩
    have e : r = (q.1 ++ [u.1], u.2) := by rw [hr, frsF, ← hq, ← hu]
    subst e
    exact ih hq (frF_b hu h)
theorem frsF_inv (n : Nat) {b : Bool} {p : List Int} {r : List Fr × Bool × List Int} (hr : r = frsF n b p) (hp : isB p) (h : r.2.1 = false) : b = false ∧ (∀ f ∈ r.1, FrR f) ∧ r.1.length = n ∧ p = r.1.flatMap frB ++ r.2.2 ∧ isB r.2.2 := by
  induction n generalizing r with
  | zero =>
    subst hr
    exact ⟨h, fun f hf => by simp [frsF] at hf, rfl, rfl, hp⟩
  | succ n ih =>
    obtain ⟨q, hq⟩ : ∃ q, q = frsF n b p := ⟨_, rfl⟩
    obtain ⟨u, hu⟩ : ∃ u, u = frF q.2.1 q.2.2 := ⟨_, rfl⟩
    have e : r = (q.1 ++ [u.1], u.2) := by rw [hr, frsF, ← hq, ← hu]
    subst e
    have h : u.2.1 = false := h
    obtain ⟨g1, g2, g3, g4, g5⟩ := ih hq (frF_b hu h)
    obtain ⟨k1, k2, k3, k4⟩ := frF_inv hu g5 h
    refine ⟨g1, fun f hf => ?_, by simp [g3], ?_, k4⟩
    · rcases List.mem_append.1 hf with hf | hf
      · exact g2 f hf
      · rw [List.mem_singleton.1 hf]; exact k2
    · show p = (q.1 ++ [u.1]).flatMap frB ++ u.2.2
      have e : (q.1 ++ [u.1]).flatMap frB ++ u.2.2 = q.1.flatMap frB ++ (frB u.1 ++ u.2.2) := by simp
      rw [e, ← k3, ← g4]
/-- What was read holds just these bytes. -/
structure AllR (p : List Int) (s : St) : Prop where
  fr : ∀ f ∈ s.opn, FrR f
  n : s.opn.length ≤ 100
  hp : I64s s.heap
  xl : 8 * s.outs.length ≤ p.length
  xs : I64s s.outs
  st : i64 s.steps
  ex : i64 s.exit
  ms : i64 s.marks
  at_ : i64 s.at_
  en : 0 ≤ s.end_
theorem allF_inv {p : List Int} {s0 : St} {r : St × Bool × List Int} (hr : r = allF p s0) (hp : isB p) (h : r.2.1 = false) : AllR p r.1 ∧ p = saveB r.1 ++ r.2.2 := by
  obtain ⟨r1, h1⟩ : ∃ r, r = numF false p := ⟨_, rfl⟩
  obtain ⟨r2, h2⟩ : ∃ r, r = shortF r1.2.1 r1.2.2 := ⟨_, rfl⟩
  obtain ⟨r3, h3⟩ : ∃ r, r = numF r2.2.1 r2.2.2 := ⟨_, rfl⟩
  obtain ⟨r4, h4⟩ : ∃ r, r = listF r3.2.1 r3.2.2 := ⟨_, rfl⟩
  obtain ⟨r5, h5⟩ : ∃ r, r = numF r4.2.1 r4.2.2 := ⟨_, rfl⟩
  obtain ⟨r6, h6⟩ : ∃ r, r = numF r5.2.1 r5.2.2 := ⟨_, rfl⟩
  obtain ⟨r7, h7⟩ : ∃ r, r = numF r6.2.1 r6.2.2 := ⟨_, rfl⟩
  obtain ⟨r8, h8⟩ : ∃ r, r = listF r7.2.1 r7.2.2 := ⟨_, rfl⟩
  obtain ⟨r9, h9⟩ : ∃ r, r = numF r8.2.1 r8.2.2 := ⟨_, rfl⟩
  rw [allF_of h1 h2 h3 h4 h5 h6 h7 h8 h9] at hr
  by_cases hc : r9.1 < 0 ∨ 100 < r9.1
  · rw [if_pos hc] at hr; subst hr; cases h
  rw [if_neg hc] at hr
  obtain ⟨u, hu⟩ : ∃ u, u = frsF r9.1.toNat r9.2.1 r9.2.2 := ⟨_, rfl⟩
  rw [← hu] at hr
  subst hr
  have h : u.2.1 = false := h
  have b9 := frsF_b _ hu h
  have b8 := numF_b h9 b9
  have b7 := listF_b h8 b8
  have b6 := numF_b h7 b7
  have b5 := numF_b h6 b6
  have b4 := numF_b h5 b5
  have b3 := listF_b h4 b4
  have b2 := numF_b h3 b3
  have b1 := shortF_b h2 b2
  obtain ⟨-, g1, g2, g3⟩ := numF_inv h1 hp b1
  obtain ⟨-, i1, i2, i3⟩ := shortF_inv h2 g3 b2
  obtain ⟨-, j1, j2, j3⟩ := numF_inv h3 i3 b3
  obtain ⟨-, k, k1, k2, k0, k3, k4⟩ := listF_inv h4 j3 b4
  obtain ⟨-, l1, l2, l3⟩ := numF_inv h5 k4 b5
  obtain ⟨-, m1, m2, m3⟩ := numF_inv h6 l3 b6
  obtain ⟨-, n1, n2, n3⟩ := numF_inv h7 m3 b7
  obtain ⟨-, o, o1, o2, -, o3, o4⟩ := listF_inv h8 n3 b8
  obtain ⟨-, q1, q2, q3⟩ := numF_inv h9 o4 b9
  obtain ⟨-, t1, t2, t3, t4⟩ := frsF_inv _ hu q3 h
  have hq : r9.1 = (u.1.length : Int) := by rw [t2]; omega
  dsimp only
  rw [k1, o1]
  constructor
  · refine ⟨t1, by show u.1.length ≤ 100; omega, o2, ?_, k2, g1, j1, m1, n1, i1.1⟩
    show 8 * k.length ≤ p.length
    have e1 := congrArg List.length g2
    have e2 := congrArg List.length i2
    have e3 := congrArg List.length j2
    rw [List.length_append] at e1 e2 e3
    omega
  · show p = saveB ⟨r1.1, r2.1, r3.1, k, r5.1, r6.1, r7.1, o, u.1⟩ ++ u.2.2
    have e : saveB ⟨r1.1, r2.1, r3.1, k, r5.1, r6.1, r7.1, o, u.1⟩ ++ u.2.2 = bytesL r1.1 8 ++ (bytesL r2.1 8 ++ (bytesL r3.1 8 ++ (listB k ++ (bytesL r5.1 8 ++ (bytesL r6.1 8 ++ (bytesL r7.1 8 ++ (listB o ++ (bytesL u.1.length 8 ++ (u.1.flatMap frB ++ u.2.2))))))))) := by simp only [saveB, headB, List.append_assoc]
    rw [e, ← t3, ← hq, ← q2, ← o3, ← n2, ← m2, ← l2, ← k3, ← j2, ← i2, ← g2]
/-- A machine that was loaded is sane, and has just these bytes. -/
theorem loadF_inv {E : Env} {m : Int} {p : List Int} {s : St} (hp : isB p) (h : loadF E m p = some s) : saveB s = p ∧ Sane E p.length s := by
  unfold loadF at h
  obtain ⟨r, hr⟩ : ∃ r, r = allF p (newF E m) := ⟨_, rfl⟩
  rw [← hr] at h
  split at h
  · rename_i hc
    obtain ⟨h1, h2, h3⟩ := hc
    obtain rfl := Option.some.inj h
    obtain ⟨A, hA⟩ := allF_inv hr hp h1
    rw [h2, List.append_nil] at hA
    refine ⟨hA.symm, ?_⟩
    unfold soundF at h3
    simp only [Bool.and_eq_true, decide_eq_true_eq, bne_iff_ne, ne_eq, List.all_eq_true] at h3
    obtain ⟨⟨⟨⟨⟨⟨c1, c2⟩, c3⟩, c4⟩, c5⟩, c6⟩, c7⟩ := h3
    have xl := A.xl
    refine ⟨fun f hf => ?_, A.n, ?_, c3, A.hp, by omega, A.xs, ⟨c1, c2⟩, A.st, A.ex, A.ms, A.at_, ⟨A.en, c4⟩, c5⟩
    · have B := A.fr f hf
      have C := c7 f hf
      unfold frSound at C
      simp only [Bool.and_eq_true, decide_eq_true_eq] at C
      obtain ⟨⟨⟨⟨⟨d1, d2⟩, d3⟩, d4⟩, d5⟩, d6⟩ := C
      exact ⟨⟨d1, d2⟩, B.nx, B.rl, B.rg, d6, B.sl, d4, B.ar, d5, B.yr, ⟨B.ds, d3⟩⟩
    · have c6 : r.1.opn.isEmpty = (r.1.end_ == 1) := by simpa using c6
      constructor
      · intro e
        rw [e] at c6
        have : (r.1.end_ == 1) = true := c6.symm
        simpa using this
      · intro e
        have e1 : (r.1.end_ == 1) = true := by simp [e]
        rw [e1] at c6
        simpa using c6
  · cases h
end Go.Proofs.Ytgjmdcbdkdmceaa.Mach

/- Two of the program's machines at once; so many steps and so many more. -/
namespace Go.Proofs.Ytgjmdcbdkdmceaa.Mach
open Go.RowKit

/-- What is one machine's isn't the other one's. -/
def Apart (t t' : Nat → Nat) : Prop := ∀ k, t k = 0 ∨ t' k = 0
theorem Apart.symm {t t' : Nat → Nat} (h : Apart t t') : Apart t' t := fun k => (h k).symm
theorem MRep.other {w w' : World} {tm tm' tn : Nat → Nat} {base N : Nat} {E : Env} {V : MV} {cl : List (Fr × FV)} {s : St} (h : MRep w tn base N E V cl s) (hf : Fx w w' tm tm') (hd : Apart tn tm) : MRep w' tn base N E V cl s ∧ Apart tn tm' := by
  have hs : ∀ k, tn k ≠ 0 → w'.heap[k]? = w.heap[k]? := fun k hk => hf.stay k (h.lt k hk) (by have := hd k; omega)
  have row : ∀ {T : TypeId} {v : Value} {n c : Nat} {xs : List Value}, Row w tn base T 1 v n xs c → c ≠ 0 → Row w' tn base T 1 v n xs c := fun r hc => ⟨osame r.own fun k hk => hs k (by rw [r.tag k hk]; exact hc), r.tag⟩
  refine ⟨⟨(hs N (by rw [h.tm]; omega)).trans h.hm, h.tm, ⟨⟨?_, h.env.tw, ?_, h.env.te, ?_, h.env.ti⟩, h.env.nw, h.env.ne, h.env.ni⟩, h.opn, row h.ho (by omega), row h.hh (by omega), row h.hx (by omega), fun i p hp => ?_, fun k hk => Nat.lt_of_lt_of_le (h.lt k hk) hf.size, fun k hk => ⟨(h.ge k hk).1, Nat.le_trans (h.ge k hk).2 hf.size⟩⟩, fun k => ?_⟩
  · exact Rd.keepB h.env.hw fun hn k _ hb => hs k (h.env.nw hn k hb)
  · exact Rd.keepB h.env.he fun hn k _ hb => hs k (h.env.ne hn k hb)
  · exact Rd.keepB h.env.hi fun hn k _ hb => hs k (h.env.ni hn k hb)
  · have q := h.fr i p hp
    exact ⟨(hs _ (by rw [q.tf]; omega)).trans q.fb, q.tf, q.rl, row q.sl (by omega), row q.ar (by omega), row q.rd (by omega)⟩
  · by_cases hk : tn k = 0
    · exact .inl hk
    · have h0 : tm k = 0 := by have := hd k; omega
      exact .inr (((hf.keep k (h.lt k hk)).1 (by omega)).trans h0)
/-- A machine that is made behind another one. -/
theorem Apart.made {w : World} {tm tn : Nat → Nat} (hm : ∀ k, tm k ≠ 0 → k < w.heap.size) (hn : ∀ k, k < w.heap.size → tn k = 0) : Apart tm tn := fun k => by
  by_cases hk : tm k = 0
  · exact .inl hk
  · exact .inr (hn k (hm k hk))
theorem runF_zero (E : Env) (s : St) : runF E 0 s = (0, s) := rfl
/-- So many steps and so many more are as many at once. -/
theorem runF_plus (E : Env) (x y : Nat) (s : St) : runF E (x + y) s = ((runF E x s).1 + (runF E y (runF E x s).2).1, (runF E y (runF E x s).2).2) := by
  induction x generalizing s with
  | zero => rw [Nat.zero_add, runF_zero]; simp
  | succ x ih =>
    have e : x + 1 + y = (x + y) + 1 := by omega
    rw [e]
    by_cases h : s.end_ = 0
    · have h1 : (s.end_ == 0) = true := by simp [h]
      have a : ∀ k, runF E (k + 1) s = ((runF E k (stepF E s).1).1 + 1, (runF E k (stepF E s).1).2) := fun k => by
        show (if _ then _ else _) = _
        rw [h1, if_pos rfl]
      rw [a, a, ih]
      simp only [Prod.mk.injEq, and_true]
      omega
    · have h1 : (s.end_ == 0) = false := by simpa using h
      have a : ∀ k, runF E k s = (0, s) := fun k => by
        cases k with
        | zero => rfl
        | succ k =>
          show (if _ then _ else _) = _
          rw [h1]; rfl
      simp only [a]
theorem runF_le (E : Env) (x : Nat) (s : St) : (runF E x s).1 ≤ x := by
  induction x generalizing s with
  | zero => rw [runF_zero]; exact Nat.le_refl _
  | succ x ih =>
    show (if _ then _ else _ : Nat × St).1 ≤ _
    split
    · exact Nat.succ_le_succ (ih _)
    · exact Nat.zero_le _
/-- A machine that hasn't ended has done all its steps. -/
theorem runF_all (E : Env) (x : Nat) (s : St) (h : (runF E x s).2.end_ = 0) : (runF E x s).1 = x := by
  induction x generalizing s with
  | zero => rfl
  | succ x ih =>
    by_cases h0 : s.end_ = 0
    · have h1 : (s.end_ == 0) = true := by simp [h0]
      have a : runF E (x + 1) s = ((runF E x (stepF E s).1).1 + 1, (runF E x (stepF E s).1).2) := by
        show (if _ then _ else _) = _
        rw [h1, if_pos rfl]
      rw [a] at h ⊢
      show _ + 1 = _
      rw [ih _ h]
    · have h1 : (s.end_ == 0) = false := by simpa using h0
      have a : runF E (x + 1) s = (0, s) := by
        show (if _ then _ else _) = _
        rw [h1]; rfl
      rw [a] at h
      exact absurd h h0
end Go.Proofs.Ytgjmdcbdkdmceaa.Mach

/- A machine's bytes: how many; a step turns them. No program in sight. -/
namespace Go.Proofs.Ytgjmdcbdkdmceaa.Mach
open Go.RowKit

def FewE (E : Env) : Prop := ∀ x ∈ E.es, ¬ (300 < x.2 ∧ x.2 ≤ 60000)
theorem FewE.slots {E : Env} (h : FewE E) (fn : Int) : slotsN (E.ent fn).2 ≤ 300 := by
  unfold Env.ent slotsN slotsOk
  rw [List.getD_eq_getElem?_getD]
  cases he : E.es[fn.toNat]? with
  | none => simp
  | some x =>
    have := h x (List.mem_of_getElem? he)
    simp only [Option.getD_some]
    split
    · rename_i hs
      simp at hs
      omega
    · omega
theorem frB_few {E : Env} {f : Fr} (h : FrOk E f) (hF : FewE E) : (frB f).length ≤ 2672 := by
  have h1 := h.sn
  have h2 := h.an
  have h3 := h.yn
  have h4 := h.rl
  have h5 := hF.slots f.fn
  simp only [frB, List.length_append, bytesL_length, flat8, listB_length]
  omega
theorem saveB_few {E : Env} {L : Nat} {s : St} (h : Sane E L s) (hF : FewE E) (hL : L ≤ 2000) : (saveB s).length ≤ 330000 := by
  have key : ∀ l : List Fr, (∀ g ∈ l, FrOk E g) → (l.flatMap frB).length ≤ 2672 * l.length := fun l => by
    induction l with
    | nil => intro _; simp
    | cons a r ih =>
      intro hh
      have h1 := frB_few (hh a (by simp)) hF
      have h2 := ih (fun g hg => hh g (by simp [hg]))
      rw [List.flatMap_cons, List.length_append, List.length_cons]; omega
  have h1 := key s.opn h.fr
  have h2 := h.n
  have h3 := h.hl
  have h4 := h.xl
  simp only [saveB, headB, List.length_append, bytesL_length, listB_length]
  omega
theorem ite_steps {c : Prop} [Decidable c] {x y : St} {k : Int} (hx : x.steps = k) (hy : y.steps = k) : (if c then x else y).steps = k := by split <;> assumption
theorem doF_steps (E : Env) (s : St) (os : List Fr) (f : Fr) (x : W) : (doF E s os f x).steps = s.steps := by
  unfold doF
  repeat' refine ite_steps ?_ ?_
  all_goals first
    | rfl
    | (split
       all_goals first
         | rfl
         | (refine ite_steps ?_ ?_ <;> rfl)
         | (split <;> rfl))
theorem stepF_steps (E : Env) (s : St) (h : s.opn ≠ []) : (stepF E s).1.steps = wrap64 (s.steps + 1) := by
  unfold stepF
  cases ho : s.opn.getLast? with
  | none => rw [List.getLast?_eq_none_iff] at ho; exact absurd ho h
  | some f =>
    dsimp only
    split
    · rfl
    · split
      · rw [doF_steps]
      · rfl
/-- Unlike moments have unlike bytes. -/
theorem step_bytes {E : Env} {L : Nat} {s : St} (hs : Sane E L s) (hE : EnvOk E) (h0 : s.end_ = 0) : saveB (stepF E s).1 ≠ saveB s := fun e => by
  have h1 : s.opn ≠ [] := fun ho => by have := hs.o.1 ho; omega
  have h2 := stepF_steps E s h1
  have hs' := stepF_good hE hs h0
  have a1 : ∀ t : St, i64 t.steps → (numF false (saveB t)).1 = t.steps := fun t ht => by
    have e : saveB t = bytesL t.steps 8 ++ (bytesL t.end_ 8 ++ (bytesL t.exit 8 ++ (listB t.outs ++ (bytesL t.read 8 ++ (bytesL t.marks 8 ++ (bytesL t.at_ 8 ++ (listB t.heap ++ (bytesL t.opn.length 8 ++ t.opn.flatMap frB)))))))) := by simp only [saveB, headB, List.append_assoc]
    rw [e, numF_bytes ht]
  have a2 := a1 _ hs'.st
  have a3 := a1 _ hs.st
  rw [e, a3, h2] at a2
  have h4 := hs.st
  unfold i64 at h4
  unfold wrap64 at a2
  omega
theorem eqL_ne {l m : List Int} (h : l ≠ m) : eqL l m = false := by
  unfold eqL
  simpa using h
end Go.Proofs.Ytgjmdcbdkdmceaa.Mach
