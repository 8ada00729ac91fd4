/- Lists of numbers and of entries in memory; what a machine reads. -/
import Derived.Test.YteeapfgjjankeaaYt
import Derived.Test.YteeapfgjjankeaaYa
import Derived.Test.YteeapfgjjankeaaWs
namespace Go.Proofs.Yteeapfgjjankeaa.Mach
open Go.RowKit

def intsV (l : List Int) : List Value := l.map (Value.int .i64)
theorem intsV_at {l : List Int} {j : Nat} (h : j < l.length) : (intsV l)[j]? = some (.int .i64 (l.getD j 0)) := by simp [intsV, h]
theorem intsV_set (l : List Int) (j : Nat) (x : Int) : (intsV l).set j (.int .i64 x) = intsV (l.set j x) := by simp [intsV, List.map_set]
theorem intsV_take (l : List Int) (k : Nat) : (intsV l).take k = intsV (l.take k) := by simp [intsV, List.map_take]
theorem intsV_app (l m : List Int) : intsV l ++ intsV m = intsV (l ++ m) := by simp [intsV]
theorem intsV_one (l : List Int) : ∀ u ∈ intsV l, u.oneCell' = true := ints_oneCell .i64 l

def entC : List (Int × Int) → List Value
  | [] => []
  | x :: r => .int .i64 x.1 :: .int .i64 x.2 :: entC r
theorem entC_length : ∀ l, (entC l).length = l.length * 2
  | [] => rfl
  | x :: r => by simp [entC, entC_length r]; omega
theorem entC_at : ∀ (l : List (Int × Int)) (j : Nat) (_ : j < l.length), (entC l)[j * 2]? = some (.int .i64 (l.getD j (0, 0)).1) ∧ (entC l)[j * 2 + 1]? = some (.int .i64 (l.getD j (0, 0)).2)
  | x :: r, 0, _ => by simp [entC]
  | x :: r, j + 1, h => by
    have ih := entC_at r j (by simpa using h)
    have e : (j + 1) * 2 = j * 2 + 1 + 1 := by omega
    rw [e]
    simpa [entC] using ih
theorem entC_one : ∀ (l : List (Int × Int)), ∀ u ∈ entC l, u.oneCell' = true
  | [], u, hu => by simp [entC] at hu
  | x :: r, u, hu => by
    simp only [entC, List.mem_cons] at hu
    rcases hu with rfl | rfl | hu
    · rfl
    · rfl
    · exact entC_one r u hu

theorem Rd.keepB {w w' : World} {size : Nat} {v : Value} {n : Nat} {xs : List Value} (h : Rd w size v n xs) (hs : 0 < n → ∀ k, k < w.heap.size → v.ownBlock = some k → w'.heap[k]? = w.heap[k]?) : Rd w' size v n xs := by
  refine ⟨h.1, ?_⟩
  rcases h.2 with hn | ⟨a, cap, rfl, h1, h2, h3⟩
  · exact .inl hn
  · refine .inr ⟨a, cap, rfl, h1, h2, fun j u hu => ?_⟩
    have hc := h3 j u hu
    have e : (a.add j).block = a.block := by unfold Addr.add; split <;> rfl
    have hn : 0 < n := by
      have h4 := (List.getElem?_eq_some_iff.1 hu).1
      rw [h.1] at h4
      exact Nat.pos_of_ne_zero fun e => by rw [e, Nat.zero_mul] at h4; omega
    rw [World.cell?_of_block (w := w) (by rw [e]; exact hs hn a.block (by have := World.block_lt_of_cell? w _ hc; rwa [e] at this) rfl)]; exact hc
theorem Rd.blk {w : World} {size : Nat} {v : Value} {n : Nat} {xs : List Value} (h : Rd w size v n xs) (hn : 0 < n) (hz : 0 < size) : ∀ k, v.ownBlock = some k → k < w.heap.size := fun k hk => by
  rcases Rd.split h hz with ⟨_, _, _, h2, _⟩ | ⟨b, off, c, rfl, _, _, _, hl, _⟩
  · omega
  · simp only [Value.ownBlock, Option.some.injEq] at hk; omega

/-- What a machine reads and never writes. -/
structure EnvAt (w : World) (t : Nat → Nat) (wv ev iv : Value) (E : Env) : Prop where
  hw : Rd w 5 wv E.ws.length (cW E.ws)
  tw : 0 < E.ws.length → ∀ k, wv.ownBlock = some k → t k ≤ 2
  he : Rd w 2 ev E.es.length (entC E.es)
  te : 0 < E.es.length → ∀ k, ev.ownBlock = some k → t k ≤ 2
  hi : Rd w 1 iv E.inp.length (intsV E.inp)
  ti : 0 < E.inp.length → ∀ k, iv.ownBlock = some k → t k ≤ 2
theorem EnvAt.fx {w w' : World} {t t' : Nat → Nat} {wv ev iv : Value} {E : Env} (h : EnvAt w t wv ev iv E) (hf : Fx w w' t t') : EnvAt w' t' wv ev iv E :=
  ⟨Rd.keepB h.hw fun hn k hl hb => hf.stay k hl (h.tw hn k hb), fun hn k hb => by rw [(hf.keep k (Rd.blk h.hw hn (by omega) k hb)).1 (h.tw hn k hb)]; exact h.tw hn k hb,
    Rd.keepB h.he fun hn k hl hb => hf.stay k hl (h.te hn k hb), fun hn k hb => by rw [(hf.keep k (Rd.blk h.he hn (by omega) k hb)).1 (h.te hn k hb)]; exact h.te hn k hb,
    Rd.keepB h.hi fun hn k hl hb => hf.stay k hl (h.ti hn k hb), fun hn k hb => by rw [(hf.keep k (Rd.blk h.hi hn (by omega) k hb)).1 (h.ti hn k hb)]; exact h.ti hn k hb⟩

theorem heap_set {w : World} {M : Nat} {c : Array Value} {T : TypeId} {f : Nat × Nat} (h : w.heap[M]? = some (.cells c T f)) (i : Nat) (v : Value) : (w.setCell ⟨M, i, none⟩ v).heap[M]? = some (.cells (c.setIfInBounds i v) T f) := by
  simp [World.setCell, Array.getElem?_modify, h]
theorem cellA {w : World} {p : Addr} {v : Value} (h : w.cell? p = some v) (n : Nat) (o : Obj) : ((w.drewN n).alloc o).cell? p = some v := by
  have hb : Below w.heap.size w (w.drewN n) := ⟨rfl, rfl, rfl, Nat.le_refl _, fun _ _ => rfl⟩
  exact ((hb.alloc (Nat.le_refl _) o).cell (p := p) (World.block_lt_of_cell? w p h)).trans h
theorem frzA {w : World} {p : Addr} {v : Value} (h : w.cell? p = some v) (hz : w.frozen? p = false) (n : Nat) (o : Obj) : ((w.drewN n).alloc o).frozen? p = false := by
  have hb : Below w.heap.size w (w.drewN n) := ⟨rfl, rfl, rfl, Nat.le_refl _, fun _ _ => rfl⟩
  exact ((hb.alloc (Nat.le_refl _) o).frozen (p := p) (World.block_lt_of_cell? w p h)).trans hz
theorem formB_37 {a b c : Int} {n : Nat} (h : formB ⟨37, a, b, c, (n : Int)⟩ = true) : n ≤ 256 := by
  simp [formB, shp, formP] at h; omega
theorem formB_37' {a b c i : Int} (h : formB ⟨37, a, b, c, i⟩ = true) : 1 ≤ i := by
  simp [formB, shp, formP] at h; omega
theorem formB_imm {op a b c i : Int} (h : formB ⟨op, a, b, c, i⟩ = true) (ho : op = 32 ∨ op = 33 ∨ op = 37 ∨ op = 41 ∨ op = 44 ∨ op = 45 ∨ op = 46 ∨ op = 48) : 0 ≤ i := by
  rcases ho with rfl | rfl | rfl | rfl | rfl | rfl | rfl | rfl <;> simp [formB, shp, formP] at h <;> omega
theorem formB_regs {op a b c imm : Int} (h : formB ⟨op, a, b, c, imm⟩ = true) : a < 16 ∧ b < 16 ∧ c < 16 := by
  unfold formB at h
  rcases shp op with ⟨r, i, lo, hi, ok⟩
  simp only [formP, Bool.and_eq_true, decide_eq_true_eq] at h
  exact ⟨h.2.1.1.1.1.1.1, h.2.1.1.1.1.1.2, h.2.1.1.1.1.2⟩
theorem EnvAt.ent {w : World} {t : Nat → Nat} {wv ev iv : Value} {E : Env} (h : EnvAt w t wv ev iv E) {fn : Int} (h0 : 0 ≤ fn) (h1 : fn < E.es.length) :
    ∃ eb eo ec, ev = .slice (some ⟨eb, eo, none⟩) E.es.length ec ∧ w.cell? ⟨eb, eo + fn.toNat * 2, none⟩ = some (.int .i64 (E.ent fn).1) ∧ w.cell? ⟨eb, eo + fn.toNat * 2 + 1, none⟩ = some (.int .i64 (E.ent fn).2) ∧ eb < w.heap.size ∧ t eb ≤ 2 := by
  rcases Rd.split h.he (by omega) with ⟨_, _, _, h2, _⟩ | ⟨eb, eo, ec, he, _, _, _, hl, hc⟩
  · omega
  · have hj : fn.toNat < E.es.length := by omega
    have hlen := entC_length E.es
    obtain ⟨c1, c2⟩ := entC_at E.es fn.toNat hj
    obtain ⟨i1, c1⟩ := List.getElem?_eq_some_iff.1 c1
    obtain ⟨i2, c2⟩ := List.getElem?_eq_some_iff.1 c2
    refine ⟨eb, eo, ec, he, ?_, ?_, hl, h.te (by omega) eb (by rw [he]; rfl)⟩
    · rw [hc _ i1, c1]; rfl
    · rw [Nat.add_assoc, hc _ i2, c2]; rfl
theorem EnvAt.word {w : World} {t : Nat → Nat} {wv ev iv : Value} {E : Env} (h : EnvAt w t wv ev iv E) {n : Int} (h0 : 0 ≤ n) (h1 : n < E.ws.length) :
    ∃ b o c, wv = .slice (some ⟨b, o, none⟩) E.ws.length c ∧ w.cell? ⟨b, o + n.toNat * 5, none⟩ = some (.int .u8 (E.ws.getD n.toNat W.zero).op) ∧ w.cell? ⟨b, o + n.toNat * 5 + 1, none⟩ = some (.int .u8 (E.ws.getD n.toNat W.zero).a) ∧ w.cell? ⟨b, o + n.toNat * 5 + 2, none⟩ = some (.int .u8 (E.ws.getD n.toNat W.zero).b) ∧
      w.cell? ⟨b, o + n.toNat * 5 + 3, none⟩ = some (.int .u8 (E.ws.getD n.toNat W.zero).c) ∧ w.cell? ⟨b, o + n.toNat * 5 + 4, none⟩ = some (.int .i64 (E.ws.getD n.toNat W.zero).imm) ∧ b < w.heap.size ∧ t b ≤ 2 := by
  have hj : n.toNat < E.ws.length := by omega
  rcases RdW.split h.hw with ⟨_, _, _, h2⟩ | ⟨b, o, c, he, _, _, _, hl, hc⟩
  · rw [h2] at h1; simp at h1; omega
  · obtain ⟨c0, c1, c2, c3, c4⟩ := hc n.toNat hj
    rw [List.getD_eq_getElem?_getD, List.getElem?_eq_getElem hj]
    exact ⟨b, o, c, he, c0, c1, c2, c3, c4, hl, h.tw (by omega) b (by rw [he]; rfl)⟩
theorem top_top (s : St) (os os' : List Fr) (f f' : Fr) : (s.top os f).top os' f' = s.top os' f' := rfl
end Go.Proofs.Yteeapfgjjankeaa.Mach
