/- Lists of numbers and of entries in memory; what a machine reads. -/
import Derived.Test.YtgjmdcbdkdmceaaQ13
import Derived.Test.YtgjmdcbdkdmceaaQ14
import Derived.Test.YtgjmdcbdkdmceaaQ15
import Derived.Test.YtgjmdcbdkdmceaaProg
import Derived.KernelRfl
import Derived.Laws.MakeOwn
import Derived.Laws.OwnMore
namespace Go.Proofs.Ytgjmdcbdkdmceaa.Mach
open Go.RowKit

def intsV (l : List Int) : List Value := l.map (Value.int .i64)
theorem intsV_at {l : List Int} {j : Nat} (h : j < l.length) : (intsV l)[j]? = some (.int .i64 (l.getD j 0)) := by simp [intsV, h]
theorem intsV_set (l : List Int) (j : Nat) (x : Int) : (intsV l).set j (.int .i64 x) = intsV (l.set j x) := by simp [intsV, List.map_set]
theorem intsV_take (l : List Int) (k : Nat) : (intsV l).take k = intsV (l.take k) := by simp [intsV, List.map_take]
theorem intsV_app (l m : List Int) : intsV l ++ intsV m = intsV (l ++ m) := by simp [intsV]
theorem intsV_one (l : List Int) : ∀ u ∈ intsV l, u.oneCell' = true := ints_oneCell .i64 l

def entC : List (Int × Int) → List Value
  | [] => []
  | x :: r => .int .i64 x.1 :: .int .i64 x.2 :: entC r
theorem entC_length : ∀ l, (entC l).length = l.length * 2
  | [] => rfl
  | x :: r => by simp [entC, entC_length r]; omega
theorem entC_at : ∀ (l : List (Int × Int)) (j : Nat) (_ : j < l.length), (entC l)[j * 2]? = some (.int .i64 (l.getD j (0, 0)).1) ∧ (entC l)[j * 2 + 1]? = some (.int .i64 (l.getD j (0, 0)).2)
  | x :: r, 0, _ => by simp [entC]
  | x :: r, j + 1, h => by
    have ih := entC_at r j (by simpa using h)
    have e : (j + 1) * 2 = j * 2 + 1 + 1 := by omega
    rw [e]
    simpa [entC] using ih
theorem entC_one : ∀ (l : List (Int × Int)), ∀ u ∈ entC l, u.oneCell' = true
  | [], u, hu => by simp [entC] at hu
  | x :: r, u, hu => by
    simp only [entC, List.mem_cons] at hu
    rcases hu with rfl | rfl | hu
    · rfl
    · rfl
    · exact entC_one r u hu

theorem Rd.keepB {w w' : World} {size : Nat} {v : Value} {n : Nat} {xs : List Value} (h : Rd w size v n xs) (hs : 0 < n → ∀ k, k < w.heap.size → v.ownBlock = some k → w'.heap[k]? = w.heap[k]?) : Rd w' size v n xs := by
  refine ⟨h.1, ?_⟩
  rcases h.2 with hn | ⟨a, cap, rfl, h1, h2, h3⟩
  · exact .inl hn
  · refine .inr ⟨a, cap, rfl, h1, h2, fun j u hu => ?_⟩
    have hc := h3 j u hu
    have e : (a.add j).block = a.block := by unfold Addr.add; split <;> rfl
    have hn : 0 < n := by
      have h4 := (List.getElem?_eq_some_iff.1 hu).1
      rw [h.1] at h4
      exact Nat.pos_of_ne_zero fun e => by rw [e, Nat.zero_mul] at h4; omega
    rw [World.cell?_of_block (w := w) (by rw [e]; exact hs hn a.block (by have := World.block_lt_of_cell? w _ hc; rwa [e] at this) rfl)]; exact hc
theorem Rd.blk {w : World} {size : Nat} {v : Value} {n : Nat} {xs : List Value} (h : Rd w size v n xs) (hn : 0 < n) (hz : 0 < size) : ∀ k, v.ownBlock = some k → k < w.heap.size := fun k hk => by
  rcases Rd.split h hz with ⟨_, _, _, h2, _⟩ | ⟨b, off, c, rfl, _, _, _, hl, _⟩
  · omega
  · simp only [Value.ownBlock, Option.some.injEq] at hk; omega

/-- What a machine reads and never writes. -/
structure EnvAt (w : World) (t : Nat → Nat) (wv ev iv : Value) (E : Env) : Prop where
  hw : Rd w 5 wv E.ws.length (cW E.ws)
  tw : 0 < E.ws.length → ∀ k, wv.ownBlock = some k → t k ≤ 2
  he : Rd w 2 ev E.es.length (entC E.es)
  te : 0 < E.es.length → ∀ k, ev.ownBlock = some k → t k ≤ 2
  hi : Rd w 1 iv E.inp.length (intsV E.inp)
  ti : 0 < E.inp.length → ∀ k, iv.ownBlock = some k → t k ≤ 2
theorem EnvAt.fx {w w' : World} {t t' : Nat → Nat} {wv ev iv : Value} {E : Env} (h : EnvAt w t wv ev iv E) (hf : Fx w w' t t') : EnvAt w' t' wv ev iv E :=
  ⟨Rd.keepB h.hw fun hn k hl hb => hf.stay k hl (h.tw hn k hb), fun hn k hb => by rw [(hf.keep k (Rd.blk h.hw hn (by omega) k hb)).1 (h.tw hn k hb)]; exact h.tw hn k hb,
    Rd.keepB h.he fun hn k hl hb => hf.stay k hl (h.te hn k hb), fun hn k hb => by rw [(hf.keep k (Rd.blk h.he hn (by omega) k hb)).1 (h.te hn k hb)]; exact h.te hn k hb,
    Rd.keepB h.hi fun hn k hl hb => hf.stay k hl (h.ti hn k hb), fun hn k hb => by rw [(hf.keep k (Rd.blk h.hi hn (by omega) k hb)).1 (h.ti hn k hb)]; exact h.ti hn k hb⟩
/-- What a machine reads, and that it is marked as its own: two machines at once. -/
structure EnvO (w : World) (t : Nat → Nat) (wv ev iv : Value) (E : Env) : Prop extends EnvAt w t wv ev iv E where
  nw : 0 < E.ws.length → ∀ k, wv.ownBlock = some k → t k ≠ 0
  ne : 0 < E.es.length → ∀ k, ev.ownBlock = some k → t k ≠ 0
  ni : 0 < E.inp.length → ∀ k, iv.ownBlock = some k → t k ≠ 0
theorem EnvO.fx {w w' : World} {t t' : Nat → Nat} {wv ev iv : Value} {E : Env} (h : EnvO w t wv ev iv E) (hf : Fx w w' t t') : EnvO w' t' wv ev iv E :=
  ⟨h.toEnvAt.fx hf, fun hn k hb => by rw [(hf.keep k (Rd.blk h.hw hn (by omega) k hb)).1 (h.tw hn k hb)]; exact h.nw hn k hb,
    fun hn k hb => by rw [(hf.keep k (Rd.blk h.he hn (by omega) k hb)).1 (h.te hn k hb)]; exact h.ne hn k hb,
    fun hn k hb => by rw [(hf.keep k (Rd.blk h.hi hn (by omega) k hb)).1 (h.ti hn k hb)]; exact h.ni hn k hb⟩

theorem heap_set {w : World} {M : Nat} {c : Array Value} {T : TypeId} {f : Nat × Nat} (h : w.heap[M]? = some (.cells c T f)) (i : Nat) (v : Value) : (w.setCell ⟨M, i, none⟩ v).heap[M]? = some (.cells (c.setIfInBounds i v) T f) := by
  simp [World.setCell, Array.getElem?_modify, h]
theorem cellA {w : World} {p : Addr} {v : Value} (h : w.cell? p = some v) (n : Nat) (o : Obj) : ((w.drewN n).alloc o).cell? p = some v := by
  have hb : Below w.heap.size w (w.drewN n) := ⟨rfl, rfl, rfl, Nat.le_refl _, fun _ _ => rfl⟩
  exact ((hb.alloc (Nat.le_refl _) o).cell (p := p) (World.block_lt_of_cell? w p h)).trans h
theorem frzA {w : World} {p : Addr} {v : Value} (h : w.cell? p = some v) (hz : w.frozen? p = false) (n : Nat) (o : Obj) : ((w.drewN n).alloc o).frozen? p = false := by
  have hb : Below w.heap.size w (w.drewN n) := ⟨rfl, rfl, rfl, Nat.le_refl _, fun _ _ => rfl⟩
  exact ((hb.alloc (Nat.le_refl _) o).frozen (p := p) (World.block_lt_of_cell? w p h)).trans hz
theorem formB_37 {a b c : Int} {n : Nat} (h : formB ⟨37, a, b, c, (n : Int)⟩ = true) : n ≤ 256 := by
  simp [formB, shp, formP] at h; omega
theorem formB_37' {a b c i : Int} (h : formB ⟨37, a, b, c, i⟩ = true) : 1 ≤ i := by
  simp [formB, shp, formP] at h; omega
theorem formB_imm {op a b c i : Int} (h : formB ⟨op, a, b, c, i⟩ = true) (ho : op = 32 ∨ op = 33 ∨ op = 37 ∨ op = 41 ∨ op = 44 ∨ op = 45 ∨ op = 46 ∨ op = 48) : 0 ≤ i := by
  rcases ho with rfl | rfl | rfl | rfl | rfl | rfl | rfl | rfl <;> simp [formB, shp, formP] at h <;> omega
theorem formB_regs {op a b c imm : Int} (h : formB ⟨op, a, b, c, imm⟩ = true) : a < 16 ∧ b < 16 ∧ c < 16 := by
  unfold formB at h
  rcases shp op with ⟨r, i, lo, hi, ok⟩
  simp only [formP, Bool.and_eq_true, decide_eq_true_eq] at h
  exact ⟨h.2.1.1.1.1.1.1, h.2.1.1.1.1.1.2, h.2.1.1.1.1.2⟩
theorem EnvAt.ent {w : World} {t : Nat → Nat} {wv ev iv : Value} {E : Env} (h : EnvAt w t wv ev iv E) {fn : Int} (h0 : 0 ≤ fn) (h1 : fn < E.es.length) :
    ∃ eb eo ec, ev = .slice (some ⟨eb, eo, none⟩) E.es.length ec ∧ w.cell? ⟨eb, eo + fn.toNat * 2, none⟩ = some (.int .i64 (E.ent fn).1) ∧ w.cell? ⟨eb, eo + fn.toNat * 2 + 1, none⟩ = some (.int .i64 (E.ent fn).2) ∧ eb < w.heap.size ∧ t eb ≤ 2 := by
  rcases Rd.split h.he (by omega) with ⟨_, _, _, h2, _⟩ | ⟨eb, eo, ec, he, _, _, _, hl, hc⟩
  · omega
  · have hj : fn.toNat < E.es.length := by omega
    have hlen := entC_length E.es
    obtain ⟨c1, c2⟩ := entC_at E.es fn.toNat hj
    obtain ⟨i1, c1⟩ := List.getElem?_eq_some_iff.1 c1
    obtain ⟨i2, c2⟩ := List.getElem?_eq_some_iff.1 c2
    refine ⟨eb, eo, ec, he, ?_, ?_, hl, h.te (by omega) eb (by rw [he]; rfl)⟩
    · rw [hc _ i1, c1]; rfl
    · rw [Nat.add_assoc, hc _ i2, c2]; rfl
theorem EnvAt.word {w : World} {t : Nat → Nat} {wv ev iv : Value} {E : Env} (h : EnvAt w t wv ev iv E) {n : Int} (h0 : 0 ≤ n) (h1 : n < E.ws.length) :
    ∃ b o c, wv = .slice (some ⟨b, o, none⟩) E.ws.length c ∧ w.cell? ⟨b, o + n.toNat * 5, none⟩ = some (.int .u8 (E.ws.getD n.toNat W.zero).op) ∧ w.cell? ⟨b, o + n.toNat * 5 + 1, none⟩ = some (.int .u8 (E.ws.getD n.toNat W.zero).a) ∧ w.cell? ⟨b, o + n.toNat * 5 + 2, none⟩ = some (.int .u8 (E.ws.getD n.toNat W.zero).b) ∧
      w.cell? ⟨b, o + n.toNat * 5 + 3, none⟩ = some (.int .u8 (E.ws.getD n.toNat W.zero).c) ∧ w.cell? ⟨b, o + n.toNat * 5 + 4, none⟩ = some (.int .i64 (E.ws.getD n.toNat W.zero).imm) ∧ b < w.heap.size ∧ t b ≤ 2 := by
  have hj : n.toNat < E.ws.length := by omega
  rcases RdW.split h.hw with ⟨_, _, _, h2⟩ | ⟨b, o, c, he, _, _, _, hl, hc⟩
  · rw [h2] at h1; simp at h1; omega
  · obtain ⟨c0, c1, c2, c3, c4⟩ := hc n.toNat hj
    rw [List.getD_eq_getElem?_getD, List.getElem?_eq_getElem hj]
    exact ⟨b, o, c, he, c0, c1, c2, c3, c4, hl, h.tw (by omega) b (by rw [he]; rfl)⟩
theorem top_top (s : St) (os os' : List Fr) (f f' : Fr) : (s.top os f).top os' f' = s.top os' f' := rfl
end Go.Proofs.Ytgjmdcbdkdmceaa.Mach

/- Memory told by tags: rows that grow; new rows; blocks told anew. -/
namespace Go.Proofs.Ytgjmdcbdkdmceaa.Mach
open Go.RowKit

theorem info_i64' : (Try.prog.info? 2).map (fun i => (i.zero, i.size, i.bytes)) = some (some (.int .i64 0), 1, 8) := by kernel_rfl
theorem parts' {i : Option TypeInfo} {z : Value} {s b : Nat} (h : i.map (fun i => (i.zero, i.size, i.bytes)) = some (some z, s, b)) : ∃ x, i = some x ∧ x.zero = some z ∧ x.size = s ∧ x.bytes = b := by
  cases i with
  | none => cases h
  | some i =>
    simp only [Option.map_some, Option.some.injEq, Prod.mk.injEq] at h
    exact ⟨i, rfl, h.1, h.2.1, h.2.2⟩
theorem info_i64 : ∃ x, Try.prog.info? 2 = some x ∧ x.zero = some (.int .i64 0) ∧ x.size = 1 ∧ x.bytes = 8 := parts' info_i64'
theorem lit1_rd (w : World) (x : Value) (T : TypeId) : Rd (w.alloc (.cells #[x] T)) 1 (.slice (some ⟨w.heap.size, 0, none⟩) 1 1) 1 [x] := by
  refine Rd.mk rfl (Nat.le_refl _) (by unfold maxLen; omega) fun j hj => ?_
  have : j = 0 := by simp at hj; omega
  subst this
  have h2 := heap_alloc_new w (.cells #[x] T)
  simp only [World.cell?, Nat.zero_add, h2]
  rfl
/-- Blocks of the tag c turn (or are new); all else stays. -/
structure Trn (w w' : World) (t t' : Nat → Nat) (c base : Nat) : Prop where
  rows : ∀ {b : Nat} {e : TypeId} {K : Nat} {v : Value} {n : Nat} {xs : List Value} {d : Nat}, Row w t b e K v n xs d → d ≠ c → Row w' t' b e K v n xs d
  blks : ∀ k, k < w.heap.size → t k ≠ c → w'.heap[k]? = w.heap[k]? ∧ t' k = t k
  fx : Fx w w' t t'
  lt : (∀ k, t k ≠ 0 → k < w.heap.size) → ∀ k, t' k ≠ 0 → k < w'.heap.size
  ge : (∀ k, 2 < t k → base ≤ k ∧ base ≤ w.heap.size) → ∀ k, 2 < t' k → base ≤ k ∧ base ≤ w'.heap.size
section
variable {w w' w'' : World} {t t' t'' : Nat → Nat} {c base : Nat}
theorem Trn.refl (w : World) (t : Nat → Nat) (c base : Nat) : Trn w w t t c base := ⟨fun h _ => h, fun _ _ _ => ⟨rfl, rfl⟩, Fx.refl w t, fun h => h, fun h => h⟩
theorem Trn.only (h : Only w w' t c) (hc : 2 < c) : Trn w w' t t c base :=
  ⟨fun r hd => r.only h hd, fun k hk hn => ⟨h.stay k hk hn, rfl⟩, Fx.only h hc, fun hl k hk => Nat.lt_of_lt_of_le (hl k hk) h.size, fun hg k hk => ⟨(hg k hk).1, Nat.le_trans (hg k hk).2 h.size⟩⟩
theorem Trn.trans (h : Trn w w' t t' c base) (k : Trn w' w'' t' t'' c base) : Trn w w'' t t'' c base :=
  ⟨fun r hd => k.rows (h.rows r hd) hd, fun j hj hn => by
    obtain ⟨h1, h2⟩ := h.blks j hj hn
    obtain ⟨h3, h4⟩ := k.blks j (Nat.lt_of_lt_of_le hj h.fx.size) (by rw [h2]; exact hn)
    exact ⟨h3.trans h1, h4.trans h2⟩, h.fx.trans k.fx, fun hl => k.lt (h.lt hl), fun hg => k.ge (h.ge hg)⟩
theorem Trn.below (h : Below w.heap.size w w') : Trn w w' t t c base :=
  ⟨fun r _ => r.below h, fun k hk _ => ⟨h.block k hk, rfl⟩, Fx.below h, fun hl k hk => Nat.lt_of_lt_of_le (hl k hk) h.size, fun hg k hk => ⟨(hg k hk).1, Nat.le_trans (hg k hk).2 h.size⟩⟩
theorem Trn.drewN (w : World) (t : Nat → Nat) (c base n : Nat) : Trn w (w.drewN n) t t c base := Trn.below ⟨rfl, rfl, rfl, Nat.le_refl _, fun _ _ => rfl⟩
/-- A row of the tag c that has grown: its block is the old one, or a new one. -/
theorem Trn.grown {u v' : Value} {e : TypeId} {K n : Nat} {xs : List Value} (hg : w.grownBy w' u.ownBlock) (hu : Tv t u c) (hf : ∀ g, v'.ownBlock = some g → w.heap.size ≤ g ∨ u.ownBlock = some g) (ho : w'.ownsRow base e K v' n xs) (hc : 2 < c) (hb : base ≤ w.heap.size) : Trn w w' t (updV t v' c) c base := by
  have hO : Only w w' t c := Only.grown hg hu
  have hf' : ∀ g, v'.ownBlock = some g → w.heap.size ≤ g ∨ t g = c := fun g h => (hf g h).imp id fun h => hu g h
  have hk : ∀ k, k < w.heap.size → t k ≠ c → updV t v' c k = t k := fun k h1 h2 => by
    unfold updV
    cases hv : v'.ownBlock with
    | none => rfl
    | some g => exact upd_ne (by rintro rfl; rcases hf' k hv with h | h <;> omega)
  have hall : ∀ k, updV t v' c k ≠ t k → v'.ownBlock = some k ∧ updV t v' c k = c := fun k h => by
    unfold updV at h ⊢
    cases hv : v'.ownBlock with
    | none => rw [hv] at h; exact absurd rfl h
    | some g =>
      rw [hv] at h
      simp only [upd] at h ⊢
      by_cases e : k = g
      · rw [if_pos e, e]; exact ⟨rfl, rfl⟩
      · rw [if_neg e] at h; exact absurd rfl h
  refine ⟨fun r hd => ?_, fun k h1 h2 => ⟨hO.stay k h1 h2, hk k h1 h2⟩, ?_, fun hl k hk' => ?_, fun hg' k hk' => ?_⟩
  · have h1 := r.updV (c := c) (c' := c) hf' hd
    exact ⟨osame h1.own fun k hk' => hO.stay k (olt h1.own k hk') (by have := r.tag k hk'; omega), h1.tag⟩
  · refine ⟨hO.os, hO.tape, hO.output, hO.size, fun k h1 h2 => hO.stay k h1 (by omega), fun k h1 => ?_⟩
    by_cases e : updV t v' c k = t k
    · rw [e]; exact ⟨fun _ => rfl, fun h => h⟩
    · obtain ⟨h2, h3⟩ := hall k e
      refine ⟨fun h4 => ?_, fun _ => by omega⟩
      rcases hf' k h2 with h5 | h5 <;> omega
  · by_cases e : updV t v' c k = t k
    · rw [e] at hk'; exact Nat.lt_of_lt_of_le (hl k hk') hO.size
    · exact olt ho k (hall k e).1
  · by_cases e : updV t v' c k = t k
    · rw [e] at hk'; exact ⟨(hg' k hk').1, Nat.le_trans (hg' k hk').2 hO.size⟩
    · exact ⟨(oblk ho k (hall k e).1).1, Nat.le_trans hb hO.size⟩
/-- One value laid by, and appended. -/
theorem Trn.app {u v' : Value} {e : TypeId} {K n : Nat} {xs : List Value} (o : Obj) (hg : (w.alloc o).grownBy w' u.ownBlock) (hu : Tv t u c) (hf : ∀ g, v'.ownBlock = some g → (w.alloc o).heap.size ≤ g ∨ u.ownBlock = some g) (ho : w'.ownsRow base e K v' n xs) (hc : 2 < c) (hb : base ≤ w.heap.size) : Trn w w' t (updV t v' c) c base :=
  (Trn.below ((Below.refl _ _).alloc (Nat.le_refl _) o)).trans (Trn.grown hg hu hf ho hc (Nat.le_trans hb (by simp)))
theorem Trn.appD {u v' : Value} {e : TypeId} {K n : Nat} {xs : List Value} (o : Obj) (hg : (w.alloc o).drew.grownBy w' u.ownBlock) (hu : Tv t u c) (hf : ∀ g, v'.ownBlock = some g → (w.alloc o).drew.heap.size ≤ g ∨ u.ownBlock = some g) (ho : w'.ownsRow base e K v' n xs) (hc : 2 < c) (hb : base ≤ w.heap.size) : Trn w w' t (updV t v' c) c base :=
  (Trn.below (((Below.refl _ _).alloc (Nat.le_refl _) o).drew)).trans (Trn.grown hg hu hf ho hc (Nat.le_trans hb (by show _ ≤ (w.alloc o).heap.size; simp)))
theorem Trn.appN {u v' : Value} {e : TypeId} {K n : Nat} {xs : List Value} (q : Nat) (o : Obj) (hg : ((w.drewN q).alloc o).grownBy w' u.ownBlock) (hu : Tv t u c) (hf : ∀ g, v'.ownBlock = some g → ((w.drewN q).alloc o).heap.size ≤ g ∨ u.ownBlock = some g) (ho : w'.ownsRow base e K v' n xs) (hc : 2 < c) (hb : base ≤ w.heap.size) : Trn w w' t (updV t v' c) c base :=
  (Trn.drewN w t c base q).trans (Trn.app (w := w.drewN q) o hg hu hf ho hc hb)
end
section
variable {w w1 : World} {t t1 : Nat → Nat} {base : Nat}
theorem Row.claimT {e : TypeId} {K n d : Nat} {v : Value} {xs : List Value} (r : Row w t base e K v n xs d) (hb : Below w.heap.size w w1) (h1 : ∀ k, k < w.heap.size → t1 k = t k) : Row w1 t1 base e K v n xs d :=
  ⟨(r.below hb).own, fun k hk => by rw [h1 k (r.lt k hk).1]; exact r.tag k hk⟩
/-- A row's block is told to be of another tag. -/
theorem Trn.retag {u : Value} {c c' : Nat} (hu : Tv t u c) (hl : ∀ g, u.ownBlock = some g → g < w.heap.size) (hc : 2 < c) (hc' : 2 < c') (_hb : (∀ k, 2 < t k → base ≤ k ∧ base ≤ w.heap.size)) : Trn w w t (updV t u c') c base := by
  cases hv : u.ownBlock with
  | none =>
    have e0 : updV t u c' = t := by simp [updV, hv]
    rw [e0]; exact Trn.refl w t c base
  | some g =>
    have hg : t g = c := hu g hv
    have e0 : updV t u c' = upd t g c' := by simp [updV, hv]
    rw [e0]
    refine ⟨fun r hd => r.upd (.inr hg) hd, fun k _ h2 => ⟨rfl, upd_ne (by rintro rfl; exact h2 hg)⟩, (Fx.refl w t).updN (.inr (by omega)) hc', fun h k hk => ?_, fun h k hk => ?_⟩
    · by_cases e : k = g
      · rw [e]; exact hl g hv
      · rw [upd_ne e] at hk; exact h k hk
    · by_cases e : k = g
      · rw [e]; exact h g (by omega)
      · rw [upd_ne e] at hk; exact h k hk
end
theorem made_toList (n : Nat) : (madeCells #[Value.int .i64 0] n).toList = intsV (List.replicate n 0) := by
  refine List.ext_getElem? fun i => ?_
  simp only [madeCells, intsV, Array.toList_map, Array.toList_range, List.getElem?_map, List.map_replicate]
  by_cases h : i < n
  · simp [h, Nat.mod_one]
  · simp [h]
theorem made_row {base : Nat} (w : World) (n : Nat) (hb : base ≤ w.heap.size) (hn : n ≤ maxLen) : (w.alloc (.cells (madeCells #[.int .i64 0] n) 2)).ownsRow base 2 1 (.slice (some ⟨w.heap.size, 0, none⟩) n n) n (intsV (List.replicate n 0)) := by
  have := World.ownsRow_lit (base := base) (e := 2) (size := 1) w (madeCells #[.int .i64 0] n) n hb hn (by rw [size_madeCells]; omega)
  rwa [made_toList] at this
/-- A row of zeros that lies in a block of its own. -/
theorem row_of_made {base g : Nat} {w : World} {n : Nat} (h : w.heap[g]? = some (.cells (madeCells #[.int .i64 0] n) 2 (0, 0))) (hb : base ≤ g) (hn : n ≤ maxLen) : w.ownsRow base 2 1 (.slice (some ⟨g, 0, none⟩) n n) n (intsV (List.replicate n 0)) :=
  ⟨by simp [intsV], .inr ⟨g, n, _, rfl, hb, h, Nat.le_refl _, hn, by rw [size_madeCells]; omega, by rw [made_toList]; exact List.take_of_length_le (by simp [intsV])⟩⟩
theorem lit_rd (w : World) (cs : Array Value) (K : Nat) (T : TypeId) (hc : cs.size = K) : Rd (w.alloc (.cells cs T)) K (.slice (some ⟨w.heap.size, 0, none⟩) 1 1) 1 cs.toList :=
  Rd.of_own (base := 0) (e := T) (World.ownsRow_lit (base := 0) (e := T) (size := K) w cs 1 (Nat.zero_le _) (by unfold maxLen; omega) (by omega))
theorem two_alloc (w : World) (c1 c2 : Array Value) (T1 T2 : TypeId) : ((w.alloc (.cells c1 T1)).alloc (.cells c2 T2)).heap[w.heap.size]? = some (.cells c1 T1 (0, 0)) ∧ ((w.alloc (.cells c1 T1)).alloc (.cells c2 T2)).heap[w.heap.size + 1]? = some (.cells c2 T2 (0, 0)) ∧ Below w.heap.size w ((w.alloc (.cells c1 T1)).alloc (.cells c2 T2)) := by
  refine ⟨?_, ?_, ((Below.refl _ _).alloc (Nat.le_refl _) _).alloc (by simp) _⟩
  · rw [Below.heap_alloc _ _ _ (by simp)]; exact heap_alloc_new _ _
  · have := heap_alloc_new (w.alloc (.cells c1 T1)) (.cells c2 T2)
    simpa using this
end Go.Proofs.Ytgjmdcbdkdmceaa.Mach

/- The machine, plainly: what holds of it at every step. -/
namespace Go.Proofs.Ytgjmdcbdkdmceaa.Mach
open Go.RowKit

def i64 (x : Int) : Prop := -9223372036854775808 ≤ x ∧ x ≤ 9223372036854775807
def I64s (l : List Int) : Prop := ∀ x ∈ l, i64 x
theorem i64_wrap (x : Int) : i64 (wrap64 x) := by
  show -9223372036854775808 ≤ wrap64 x ∧ wrap64 x ≤ 9223372036854775807
  unfold wrap64; omega
theorem i64_bits (o : BinOp) (a b : Int) : i64 (bits o .i64 a b) := by
  show -9223372036854775808 ≤ IntKind.i64.wrap _ ∧ IntKind.i64.wrap _ ≤ 9223372036854775807
  rw [IntKind.wrap_i64]; omega
theorem I64s.getD {l : List Int} (h : I64s l) (j : Nat) : i64 (l.getD j 0) := by
  rw [List.getD_eq_getElem?_getD]
  cases hj : l[j]? with
  | none => exact (show i64 0 from ⟨by omega, by omega⟩)
  | some x => exact h x (List.mem_of_getElem? hj)
theorem I64s.nil : I64s [] := fun _ h => by cases h
theorem I64s.set {l : List Int} (h : I64s l) (j : Nat) {x : Int} (hx : i64 x) : I64s (l.set j x) := fun y hy => by
  rcases List.mem_or_eq_of_mem_set hy with h1 | h1
  · exact h y h1
  · rw [h1]; exact hx
theorem I64s.snoc {l : List Int} (h : I64s l) {x : Int} (hx : i64 x) : I64s (l ++ [x]) := fun y hy => by
  rcases List.mem_append.1 hy with h1 | h1
  · exact h y h1
  · rw [List.mem_singleton.1 h1]; exact hx
theorem I64s.take {l : List Int} (h : I64s l) (k : Nat) : I64s (l.take k) := fun y hy => h y (List.mem_of_mem_take hy)
theorem I64s.app {l m : List Int} (h : I64s l) (h2 : I64s m) : I64s (l ++ m) := fun y hy => by
  rcases List.mem_append.1 hy with h1 | h1
  · exact h y h1
  · exact h2 y h1
theorem I64s.zeros (n : Nat) : I64s (List.replicate n 0) := fun y hy => by rw [List.eq_of_mem_replicate hy]; exact ⟨by omega, by omega⟩
theorem i64_nat {n : Nat} (h : n ≤ 9223372036854775807) : i64 (n : Int) := ⟨by omega, by omega⟩

structure FrOk (E : Env) (f : Fr) : Prop where
  fn : 0 ≤ f.fn ∧ f.fn < E.es.length
  nx : i64 f.next
  rl : f.regs.length = 16
  rg : I64s f.regs
  sn : f.slots.length = slotsN (E.ent f.fn).2
  sl : I64s f.slots
  an : f.args.length ≤ 6
  ar : I64s f.args
  yn : f.ready.length ≤ 6
  yr : I64s f.ready
  ds : 0 ≤ f.dst ∧ f.dst < 16
structure EnvOk (E : Env) : Prop where
  ws : ∀ x ∈ E.ws, x.ok
  es : ∀ x ∈ E.es, i64 x.1 ∧ i64 x.2
  inp : I64s E.inp
  wl : E.ws.length ≤ 1000000
  el : E.es.length ≤ 1000000
  il : E.inp.length ≤ 9223372036854775807
/-- What holds of a machine at every step; L: no more numbers than that were printed. -/
structure Sane (E : Env) (L : Nat) (s : St) : Prop where
  fr : ∀ f ∈ s.opn, FrOk E f
  n : s.opn.length ≤ 100
  o : s.opn = [] ↔ s.end_ = 1
  hl : s.heap.length ≤ 4096
  hp : I64s s.heap
  xl : s.outs.length ≤ L
  xs : I64s s.outs
  rd : 0 ≤ s.read ∧ s.read ≤ E.inp.length
  st : i64 s.steps
  ex : i64 s.exit
  ms : i64 s.marks
  at_ : i64 s.at_
  en : 0 ≤ s.end_ ∧ s.end_ ≤ 8
  e5 : s.end_ ≠ 5

theorem FrOk.put {E : Env} {f : Fr} (h : FrOk E f) (j : Int) {x : Int} (hx : i64 x) : FrOk E (f.put j x) :=
  ⟨h.fn, h.nx, by show (f.regs.set _ _).length = 16; rw [List.length_set]; exact h.rl, h.rg.set _ hx, h.sn, h.sl, h.an, h.ar, h.yn, h.yr, h.ds⟩
theorem FrOk.nextTo {E : Env} {f : Fr} (h : FrOk E f) {x : Int} (hx : i64 x) : FrOk E { f with next := x } := ⟨h.fn, hx, h.rl, h.rg, h.sn, h.sl, h.an, h.ar, h.yn, h.yr, h.ds⟩
theorem FrOk.r {E : Env} {f : Fr} (h : FrOk E f) (j : Int) : i64 (f.r j) := h.rg.getD _
theorem newFr_ok {E : Env} (hE : EnvOk E) {fn : Int} (h : 0 ≤ fn ∧ fn < E.es.length) {args : List Int} (ha : args.length ≤ 6) (hi : I64s args) {d : Int} (hd : 0 ≤ d ∧ d < 16) : FrOk E (newFr E fn args d) := by
  have he : i64 (E.ent fn).1 := by
    have hlt : fn.toNat < E.es.length := by omega
    have hm : E.es.getD fn.toNat (0, 0) ∈ E.es := by rw [List.getD_eq_getElem?_getD, List.getElem?_eq_getElem hlt]; exact List.getElem_mem _
    exact (hE.es _ hm).1
  exact ⟨h, he, by simp [newFr], I64s.zeros _, by simp [newFr], I64s.zeros _, ha, hi, by simp [newFr], I64s.nil, hd⟩

theorem newF_good {E : Env} (hE : EnvOk E) {m : Int} (h : 0 ≤ m ∧ m < E.es.length) : Sane E 0 (newF E m) := by
  refine ⟨fun f hf => ?_, by simp [newF], ⟨fun e => by simp [newF] at e, fun e => by simp [newF] at e⟩, by simp [newF], I64s.nil, by simp [newF], I64s.nil, ⟨by simp [newF], by simp [newF]⟩, ?_, ?_, ?_, ?_, by simp [newF], by simp [newF]⟩
  · simp only [newF, List.mem_singleton] at hf
    subst hf
    exact newFr_ok hE h (by simp) I64s.nil (by omega)
  all_goals exact ⟨by simp [newF], by simp [newF]⟩

theorem ite_pred {c : Prop} [Decidable c] {x y : Int × Int} {P : Int × Int → Prop} (hx : c → P x) (hy : ¬ c → P y) : P (if c then x else y) := by
  by_cases h : c
  · rw [if_pos h]; exact hx h
  · rw [if_neg h]; exact hy h
def TrapP (op : Int) (r : Int × Int) : Prop := r.2 = 0 ∨ r.2 = 2 ∨ (r.2 = 8 ∧ ¬ (1 ≤ op ∧ op ≤ 16) ∧ op ≠ 19 ∧ op ≠ 20 ∧ op ≠ 21)
def InP (r : Int × Int) : Prop := i64 r.1
theorem valF_trap (op a b : Int) : (valF op a b).2 = 0 ∨ (valF op a b).2 = 2 ∨ ((valF op a b).2 = 8 ∧ ¬ (1 ≤ op ∧ op ≤ 16) ∧ op ≠ 19 ∧ op ≠ 20 ∧ op ≠ 21) := by
  show TrapP op (valF op a b)
  unfold valF
  repeat' refine ite_pred (P := TrapP op) (fun _ => ?_) (fun _ => ?_)
  all_goals first
    | exact .inl rfl
    | exact .inr (.inl rfl)
    | (refine .inr (.inr ⟨rfl, ?_⟩)
       simp only [beq_iff_eq] at *
       omega)
theorem valF_in {op a b : Int} (ha : i64 a) : i64 (valF op a b).1 := by
  have h00 : i64 0 := ⟨by omega, by omega⟩
  have hb01 : ∀ p, i64 (b01 p) := fun p => by cases p <;> exact ⟨by decide, by decide⟩
  show InP (valF op a b)
  unfold valF
  repeat' refine ite_pred (P := InP) (fun _ => ?_) (fun _ => ?_)
  all_goals dsimp only [InP]
  all_goals first
    | (with_reducible exact i64_wrap _)
    | (with_reducible exact i64_bits _ _ _)
    | (with_reducible exact hb01 _)
    | (with_reducible exact h00)
    | skip
  · have h1 := tmod_sgn a b
    have h2 := ha.1; have h3 := ha.2
    show -9223372036854775808 ≤ a.tmod b ∧ a.tmod b ≤ 9223372036854775807
    omega
  · have h2 := ha.1; have h3 := ha.2
    have hp : (0 : Int) < 2 ^ (b % 64).toNat := Int.pow_pos (by omega)
    show -9223372036854775808 ≤ a / 2 ^ (b % 64).toNat ∧ a / 2 ^ (b % 64).toNat ≤ 9223372036854775807
    generalize (2 : Int) ^ (b % 64).toNat = p at hp
    have h4 : a / p * p ≤ a := Int.ediv_mul_le a (by omega)
    have h5 : a < (a / p + 1) * p := Int.lt_ediv_add_one_mul_self a hp
    have h7 : (a / p + 1) * p = a / p * p + p := by rw [Int.add_mul, Int.one_mul]
    constructor
    · rcases Int.lt_or_le (a / p) 0 with hn | hn
      · have h8 : a / p * p ≤ a / p * 1 := Int.mul_le_mul_of_nonpos_left (by omega) (by omega)
        by_cases ha0 : 0 ≤ a
        · have := Int.ediv_nonneg ha0 (show 0 ≤ p by omega); omega
        · have h9 : a ≤ a / p := by
            have := Int.le_ediv_of_mul_le hp (show a * p ≤ a by
              have : a * p ≤ a * 1 := Int.mul_le_mul_of_nonpos_left (by omega) (by omega)
              omega)
            exact this
          omega
      · omega
    · by_cases ha0 : 0 ≤ a
      · have := Int.ediv_le_self p ha0; omega
      · have := Int.ediv_neg_of_neg_of_pos (show a < 0 by omega) hp; omega

section
variable {E : Env} {L : Nat} {s : St} {os : List Fr} {f f' : Fr}
/-- The innermost call turns. -/
theorem Sane.top (h : Sane E L s) (ho : s.opn = os ++ [f]) (hf : FrOk E f') : Sane E L (s.top os f') := by
  refine ⟨fun g hg => ?_, ?_, ⟨fun e => by simp [St.top] at e, fun e => ?_⟩, h.hl, h.hp, h.xl, h.xs, h.rd, h.st, h.ex, h.ms, h.at_, h.en, h.e5⟩
  · simp only [St.top, List.mem_append, List.mem_singleton] at hg
    rcases hg with hg | rfl
    · exact h.fr g (by rw [ho]; exact List.mem_append_left _ hg)
    · exact hf
  · have := h.n; rw [ho] at this; simpa [St.top] using this
  · have := h.o.2 e; rw [ho] at this; simp at this
theorem Sane.ends (h : Sane E L s) (ho : s.opn ≠ []) {e : Int} (he : 0 ≤ e ∧ e ≤ 8) (h1 : e ≠ 1) (h5 : e ≠ 5) : Sane E L (s.ends e) :=
  ⟨h.fr, h.n, ⟨fun e => absurd e ho, fun e => absurd e h1⟩, h.hl, h.hp, h.xl, h.xs, h.rd, h.st, h.ex, h.ms, h.at_, he, h5⟩
theorem Sane.more (h : Sane E L s) {L' : Nat} (hl : L ≤ L') : Sane E L' s := ⟨h.fr, h.n, h.o, h.hl, h.hp, Nat.le_trans h.xl hl, h.xs, h.rd, h.st, h.ex, h.ms, h.at_, h.en, h.e5⟩
theorem cellF_e (l : List Int) (a i : Int) : (cellF l a i).1 = 0 ∨ (cellF l a i).1 = 3 ∨ (cellF l a i).1 = 8 := by
  unfold cellF; repeat' split
  all_goals simp

set_option maxHeartbeats 1000000 in
/-- What holds, holds behind an instruction. -/
theorem doF_good (hE : EnvOk E) (h : Sane E L s) (ho : s.opn = os ++ [f]) (x : W) (hx : x.ok) (hx2 : formB x = true) : Sane E (L + 1) (doF E s os f x) := by
  have hne : s.opn ≠ [] := by rw [ho]; simp
  have hf : FrOk E f := h.fr f (by rw [ho]; simp)
  have h' : Sane E (L + 1) s := h.more (Nat.le_succ L)
  obtain ⟨op, a, b, c, i⟩ := x
  have hi : i64 i := hx.2.2.2.2
  have T : ∀ {g : Fr}, FrOk E g → Sane E (L + 1) (s.top os g) := fun hg => h'.top ho hg
  have B : ∀ {e : Int}, (0 ≤ e ∧ e ≤ 8) → e ≠ 1 → e ≠ 5 → Sane E (L + 1) ((s.ends e).top os f) := fun he h1 h5 => (h'.ends hne he h1 h5).top ho hf
  by_cases hD : op ≤ 29 ∨ 49 ≤ op
  · rw [doF_D _ _ _ _ _ _ _ _ _ hD]
    split
    · have ht := valF_trap op (f.r b) (f.r c)
      exact B (by omega) (by omega) (by omega)
    · exact T (hf.put _ (valF_in (hf.r _)))
  have hop : op = 30 ∨ op = 31 ∨ op = 32 ∨ op = 33 ∨ op = 34 ∨ op = 35 ∨ op = 36 ∨ op = 37 ∨ op = 38 ∨ op = 39 ∨ op = 40 ∨ op = 41 ∨ op = 42 ∨ op = 43 ∨ op = 44 ∨ op = 45 ∨ op = 46 ∨ op = 47 ∨ op = 48 := by omega
  clear hD
  rcases hop with rfl | rfl | rfl | rfl | rfl | rfl | rfl | rfl | rfl | rfl | rfl | rfl | rfl | rfl | rfl | rfl | rfl | rfl | rfl
  · rw [doF_30]; exact T (hf.put _ hi)
  · rw [doF_31]; exact T (hf.put _ (hf.r _))
  · rw [doF_32]; split
    · exact B (by omega) (by omega) (by omega)
    · exact T (hf.put _ (hf.sl.getD _))
  · rw [doF_33]; split
    · exact B (by omega) (by omega) (by omega)
    · exact T ⟨hf.fn, hf.nx, hf.rl, hf.rg, by show (f.slots.set _ _).length = _; rw [List.length_set]; exact hf.sn, hf.sl.set _ (hf.r _), hf.an, hf.ar, hf.yn, hf.yr, hf.ds⟩
  · rw [doF_34]; split
    · exact T (hf.put _ (h.hp.getD _))
    · have := cellF_e s.heap (f.r b) (f.r c)
      exact B (by omega) (by omega) (by omega)
  · rw [doF_35]; split
    · refine Sane.top (f := f) ⟨h'.fr, h'.n, h'.o, ?_, h'.hp.set _ (hf.r _), h'.xl, h'.xs, h'.rd, h'.st, h'.ex, h'.ms, h'.at_, h'.en, h'.e5⟩ ho hf
      show (s.heap.set _ _).length ≤ 4096
      rw [List.length_set]; exact h.hl
    · have := cellF_e s.heap (f.r a) (f.r b)
      exact B (by omega) (by omega) (by omega)
  · rw [doF_36]; split
    · exact B (by omega) (by omega) (by omega)
    · exact T (hf.put _ (h.hp.getD _))
  · rw [doF_37]; split
    · exact B (by omega) (by omega) (by omega)
    · rename_i hd
      have hd : ¬ (4096 < (s.heap.length : Int) + i + 1) := by simpa using hd
      have hi0 := formB_imm hx2 (by omega)
      refine Sane.top (f := f) ⟨h'.fr, h'.n, h'.o, ?_, (h'.hp.snoc hi).app (I64s.zeros _), h'.xl, h'.xs, h'.rd, h'.st, h'.ex, h'.ms, h'.at_, h'.en, h'.e5⟩ ho (hf.put _ ⟨by omega, by have := h.hl; omega⟩)
      show (s.heap ++ [i] ++ List.replicate i.toNat 0).length ≤ 4096
      simp; omega
  · rw [doF_38]; exact T (hf.put _ (i64_nat (by have := h.hl; omega)))
  · rw [doF_39]; split
    · exact B (by omega) (by omega) (by omega)
    · refine Sane.top (f := f) ⟨h'.fr, h'.n, h'.o, ?_, h'.hp.take _, h'.xl, h'.xs, h'.rd, h'.st, h'.ex, h'.ms, h'.at_, h'.en, h'.e5⟩ ho hf
      show (s.heap.take _).length ≤ 4096
      rw [List.length_take]; have := h.hl; omega
  · rw [doF_40]; split
    · exact B (by omega) (by omega) (by omega)
    · rename_i hd
      have hd : ¬ (6 ≤ f.ready.length) := by simpa using hd
      exact T ⟨hf.fn, hf.nx, hf.rl, hf.rg, hf.sn, hf.sl, hf.an, hf.ar, by show (f.ready ++ [_]).length ≤ 6; simp; omega, hf.yr.snoc (hf.r _), hf.ds⟩
  · rw [doF_41]; split
    · exact B (by omega) (by omega) (by omega)
    split
    · exact B (by omega) (by omega) (by omega)
    split
    · exact B (by omega) (by omega) (by omega)
    · rename_i hd1 hd2 hd3
      have hd1 : ¬ ((E.es.length : Int) ≤ i) := by simpa using hd1
      have hd3 : ¬ (100 ≤ os.length + 1) := by simpa using hd3
      have hi0 := formB_imm hx2 (by omega)
      have hra := (formB_regs hx2).1
      have ha0 := hx.2.1.1
      simp only at ha0
      have hg : FrOk E { f with ready := [] } := ⟨hf.fn, hf.nx, hf.rl, hf.rg, hf.sn, hf.sl, hf.an, hf.ar, by simp, I64s.nil, hf.ds⟩
      have hnf : FrOk E (newFr E i f.ready a) := newFr_ok hE ⟨hi0, by omega⟩ hf.yn hf.yr ⟨ha0, hra⟩
      refine ⟨fun g hg' => ?_, ?_, ⟨fun e => by simp [St.top] at e, fun e => ?_⟩, h'.hl, h'.hp, h'.xl, h'.xs, h'.rd, h'.st, h'.ex, h'.ms, h'.at_, h'.en, h'.e5⟩
      · simp only [St.top, List.mem_append, List.mem_singleton] at hg'
        rcases hg' with (hg' | rfl) | rfl
        · exact h.fr g (by rw [ho]; exact List.mem_append_left _ hg')
        · exact hg
        · exact hnf
      · simp [St.top]; omega
      · have := h.o.2 e; rw [ho] at this; simp at this
  · rw [doF_42]
    refine Sane.top (f := f) ⟨h'.fr, h'.n, h'.o, h'.hl, h'.hp, ?_, h'.xs.snoc (hf.r _), h'.rd, h'.st, h'.ex, h'.ms, h'.at_, h'.en, h'.e5⟩ ho hf
    show (s.outs ++ [_]).length ≤ L + 1
    have := h.xl; simp; omega
  · rw [doF_43]; split
    · exact B (by omega) (by omega) (by omega)
    · rename_i hd
      have hd : ¬ ((E.inp.length : Int) ≤ s.read) := by simpa using hd
      have := h.rd
      exact Sane.top (f := f) ⟨h'.fr, h'.n, h'.o, h'.hl, h'.hp, h'.xl, h'.xs, ⟨by show 0 ≤ s.read + 1; omega, by show s.read + 1 ≤ _; omega⟩, h'.st, h'.ex, h'.ms, h'.at_, h'.en, h'.e5⟩ ho (hf.put _ (hE.inp.getD _))
  · rw [doF_44]
    exact Sane.top (f := f) ⟨h'.fr, h'.n, h'.o, h'.hl, h'.hp, h'.xl, h'.xs, h'.rd, h'.st, h'.ex, i64_wrap _, h'.at_, h'.en, h'.e5⟩ ho hf
  · rw [doF_45]; exact T (hf.nextTo hi)
  · rw [doF_46]; split
    · exact T (hf.nextTo hi)
    · exact T hf
  · rcases List.eq_nil_or_concat os with e | ⟨os', g, e⟩
    · subst e
      rw [doF_47n]
      exact ⟨fun g hg => (by cases hg), by simp, ⟨fun _ => rfl, fun _ => rfl⟩, h'.hl, h'.hp, h'.xl, h'.xs, h'.rd, h'.st, hf.r _, h'.ms, h'.at_, (show (0 : Int) ≤ 1 ∧ (1 : Int) ≤ 8 by omega), (show (1 : Int) ≠ 5 by omega)⟩
    · rw [List.concat_eq_append] at e
      subst e
      rw [doF_47]
      have hg : FrOk E g := h.fr g (by rw [ho]; simp)
      refine ⟨fun g' hg' => ?_, ?_, ⟨fun e => by simp [St.top] at e, fun e => ?_⟩, h'.hl, h'.hp, h'.xl, h'.xs, h'.rd, h'.st, h'.ex, h'.ms, h'.at_, h'.en, h'.e5⟩
      · simp only [St.top, List.mem_append, List.mem_singleton] at hg'
        rcases hg' with hg' | rfl
        · exact h.fr g' (by rw [ho]; simp [hg'])
        · exact hg.put _ (hf.r _)
      · have := h.n; rw [ho] at this; simp at this; simp [St.top]; omega
      · have := h.o.2 e; rw [ho] at this; simp at this
  · rw [doF_48]; split
    · exact B (by omega) (by omega) (by omega)
    · exact T (hf.put _ (hf.ar.getD _))

theorem ws_mem {E : Env} {n : Int} (h0 : 0 ≤ n) (h1 : n < E.ws.length) : E.ws.getD n.toNat W.zero ∈ E.ws := by
  have hlt : n.toNat < E.ws.length := by omega
  rw [List.getD_eq_getElem?_getD, List.getElem?_eq_getElem hlt]; exact List.getElem_mem _
theorem last_of {s : St} (h : s.opn ≠ []) : ∃ os f, s.opn = os ++ [f] := by
  rcases List.eq_nil_or_concat s.opn with e | ⟨os, f, e⟩
  · exact absurd e h
  · exact ⟨os, f, by rw [e, List.concat_eq_append]⟩
/-- What holds, holds behind a step. -/
theorem stepF_good (hE : EnvOk E) (h : Sane E L s) (h0 : s.end_ = 0) : Sane E (L + 1) (stepF E s).1 := by
  have hne : s.opn ≠ [] := fun e => by have := h.o.1 e; omega
  obtain ⟨os, f, ho⟩ := last_of hne
  have hf : FrOk E f := h.fr f (by rw [ho]; simp)
  have hs1 : Sane E L { s with steps := wrap64 (s.steps + 1), at_ := f.next } := ⟨h.fr, h.n, h.o, h.hl, h.hp, h.xl, h.xs, h.rd, i64_wrap _, h.ex, h.ms, hf.nx, h.en, h.e5⟩
  have hs2 := hs1
  rw [ho] at hs2
  unfold stepF
  rw [ho, List.getLast?_append]
  simp only [List.getLast?_singleton, Option.some_or, List.dropLast_concat]
  split
  · exact (hs2.ends (e := 8) (by simp) (by omega) (by omega) (by omega)).more (Nat.le_succ L)
  · rename_i hd
    simp only [Bool.or_eq_true, not_or, decide_eq_true_eq] at hd
    have hx := ws_mem (E := E) (n := f.next) (by omega) (by omega)
    have hwl := hE.wl
    have hf' : FrOk E { f with next := f.next + 1 } := hf.nextTo ⟨by omega, by omega⟩
    split
    · rename_i hform
      have := doF_good hE (L := L) (s := { s with steps := wrap64 (s.steps + 1), at_ := f.next, opn := os ++ [{ f with next := f.next + 1 }] }) (os := os) (f := { f with next := f.next + 1 }) (hs1.top ho hf') rfl _ (hE.ws _ hx) hform
      exact this
    · exact ((hs2.ends (e := 8) (by simp) (by omega) (by omega) (by omega)).top rfl hf').more (Nat.le_succ L)
end
theorem cellF_1 {h : List Int} {a i : Int} (h1 : a < 1) : cellF h a i = (8, 0) := by simp [cellF, h1]
theorem cellF_2 {h : List Int} {a i : Int} (h2 : (h.length : Int) < a) : cellF h a i = (8, 0) := by simp [cellF, h2]
theorem cellF_3 {h : List Int} {a i : Int} (h1 : ¬ a < 1) (h2 : ¬ (h.length : Int) < a) (h3 : i < 0 ∨ h.getD (a - 1).toNat 0 ≤ i) : cellF h a i = (3, 0) := by
  unfold cellF
  rw [if_neg (by simp [h1]; omega), if_pos (by simpa using h3)]
theorem cellF_4 {h : List Int} {a i : Int} (h1 : ¬ a < 1) (h2 : ¬ (h.length : Int) < a) (h3 : ¬ (i < 0 ∨ h.getD (a - 1).toNat 0 ≤ i)) (h4 : (h.length : Int) - a ≤ i) : cellF h a i = (8, 0) := by
  unfold cellF
  rw [if_neg (by simp [h1]; omega), if_neg (by simpa using h3), if_pos (by simpa using h4)]
theorem cellF_5 {h : List Int} {a i : Int} (h1 : ¬ a < 1) (h2 : ¬ (h.length : Int) < a) (h3 : ¬ (i < 0 ∨ h.getD (a - 1).toNat 0 ≤ i)) (h4 : ¬ (h.length : Int) - a ≤ i) : cellF h a i = (0, a + i) := by
  unfold cellF
  rw [if_neg (by simp [h1]; omega), if_neg (by simpa using h3), if_neg (by simpa using h4)]

theorem cellF_in {h : List Int} {a i p : Int} (hr : cellF h a i = (0, p)) : 0 ≤ p ∧ p < h.length := by
  unfold cellF at hr
  split at hr
  · cases hr
  · rename_i h1
    split at hr
    · cases hr
    · rename_i h2
      split at hr
      · cases hr
      · rename_i h3
        simp only [Prod.mk.injEq, true_and] at hr
        simp only [Bool.or_eq_true, decide_eq_true_eq, not_or] at h1 h2 h3
        omega
end Go.Proofs.Ytgjmdcbdkdmceaa.Mach
