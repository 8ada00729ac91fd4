/- Locs: a number's bytes, as the document has them. -/
import Derived.Test.YtnanlkoldloolaaDoorEf
import Derived.Test.YtnanlkoldloolaaDoorC
import Derived.Below
import Derived.KernelRfl
namespace Go.Proofs.YtnanlkoldloolaaDoor
open Go.RowKit

theorem infoY : (Tryd.prog.info? 5).map (fun i => (i.zero, i.size, i.bytes)) = some (some (.int .u8 0), 1, 1) := by kernel_rfl
theorem infoY_parts {i : Option TypeInfo} {z : Value} {s b : Nat} (h : i.map (fun i => (i.zero, i.size, i.bytes)) = some (some z, s, b)) : ∃ x, i = some x ∧ x.zero = some z ∧ x.size = s ∧ x.bytes = b := by
  cases i with
  | none => simp at h
  | some x => simp at h; exact ⟨x, rfl, h.1, h.2.1, h.2.2⟩
def ownY (w : World) (base : Nat) (v : Value) (l : List Int) : Prop := ownG w base 5 1 v l.length (l.map (Value.int .u8))
theorem ownY_grow {w : World} {base : Nat} {v : Value} {l : List Int} {n : Nat} {x : List Int} (h : ownG w base 5 1 v n (l.map (Value.int .u8) ++ x.map (Value.int .u8))) (hn : n = l.length + x.length) : ownY w base v (l ++ x) := by
  subst hn; simpa [ownY] using h
theorem ownY_lit0 (w : World) (base : Nat) (l : List Int) (hb : base ≤ w.heap.size) (hl : l.length ≤ 1000) :
    (w.alloc (.cells (l.map (Value.int .u8)).toArray 5)).ownsRow base 5 1 (.slice (some ⟨w.heap.size, 0, none⟩) l.length l.length) l.length (l.map (Value.int .u8)) := by
  have := World.ownsRow_lit (e := 5) (size := 1) w (l.map (Value.int .u8)).toArray l.length hb (by unfold maxLen; omega) (by simp)
  simpa using this
theorem ownY_lit (w : World) (base : Nat) (l : List Int) (hb : base ≤ w.heap.size) (hl : l.length ≤ 1000) :
    ownY (w.alloc (.cells (l.map (Value.int .u8)).toArray 5)) base (.slice (some ⟨w.heap.size, 0, none⟩) l.length l.length) l := .inl (ownY_lit0 w base l hb hl)
/-- A constant's bytes. -/
theorem ownY_const (w : World) (base : Nat) (l : List Int) (f : Nat × Nat) (hb : base ≤ w.heap.size) (hl : l.length ≤ 1000) {g : Nat} (hg : g = w.heap.size) :
    ownY (w.alloc (.cells (l.map (Value.int .u8)).toArray 5 f)) base (.slice (some ⟨g, 0, none⟩) l.length l.length) l := by
  subst hg
  exact .inr ⟨by simp, w.heap.size, _, f, rfl, hb, heap_new w _ rfl, by unfold maxLen; omega, by simp⟩
theorem ownY.rd {w : World} {base : Nat} {v : Value} {l : List Int} (h : ownY w base v l) : RdB w v l := ownG_rd h

/-- A number's bytes, the greatest first, none at 0. -/
def beB (n : Nat) : List Int := if n = 0 then [] else beB (n / 256) ++ [((n % 256 : Nat) : Int)]
theorem beB_zero : beB 0 = [] := by unfold beB; simp
theorem beB_pos {n : Nat} (h : 0 < n) : beB n = beB (n / 256) ++ [((n % 256 : Nat) : Int)] := by
  conv => lhs; unfold beB
  rw [if_neg (by omega)]
theorem beB_isB : ∀ n, isB (beB n) := by
  intro n
  induction n using Nat.strongRecOn with
  | _ n ih =>
    by_cases h : n = 0
    · subst h; rw [beB_zero]; exact fun x hx => by cases hx
    · rw [beB_pos (by omega)]
      intro x hx
      rcases List.mem_append.1 hx with h1 | h1
      · exact ih _ (by omega) x h1
      · simp at h1; omega
theorem beB_len : ∀ (k n : Nat), n < 256 ^ k → (beB n).length ≤ k
  | 0, n, h => by simp at h; subst h; rw [beB_zero]; simp
  | k + 1, n, h => by
    by_cases h0 : n = 0
    · subst h0; rw [beB_zero]; simp
    · rw [beB_pos (by omega), List.length_append]
      have := beB_len k (n / 256) (by rw [Nat.pow_succ] at h; omega)
      simp; omega
theorem beB_val : ∀ n, beL (beB n) = n := by
  intro n
  induction n using Nat.strongRecOn with
  | _ n ih =>
    by_cases h : n = 0
    · subst h; rw [beB_zero]; rfl
    · rw [beB_pos (by omega), beL_snoc, ih _ (by omega)]; omega
/-- A number as it is written. -/
def numW (n : Nat) : List Int := if n ≤ 247 then [(n : Int)] else (247 + (beB n).length : Int) :: beB n

set_option maxHeartbeats 4000000 in
theorem number_ref (n : Nat) (w : World) (hn : n < 18446744073709551616) :
   Calls Tryd.prog 46 #[.int .u64 n] w fun e w' => ∃ v, e = .returned v ∧ ownY w' w.heap.size v (numW n) ∧ Below w.heap.size w w' := by
  obtain ⟨i0, hi, hz0, hz1, hz2⟩ := infoY_parts infoY
  have HI : Hid _ := And.intro hi (And.intro hz0 (And.intro hz1 hz2))
  clear hi hz0 hz1 hz2
  by_cases hs : n ≤ 247
  · have HN : Hid (numW n = [(n : Int)]) := by show _ = _; unfold numW; rw [if_pos hs]
    go_enter Tryd.func46, Tryd.ntmps46
    go_wp2_with fail
    go_ret
    refine ⟨_, rfl, ?_, (Below.refl _ _).alloc (Nat.le_refl _) _⟩
    rw [HN.out]
    exact ownY_lit w w.heap.size [(n : Int)] (Nat.le_refl _) (by simp)
  · have HN : Hid (numW n = (247 + (beB n).length : Int) :: beB n) := by show _ = _; unfold numW; rw [if_neg hs]
    have hlen : (beB n).length ≤ 8 := beB_len 8 n (by omega)
    have HLN := Lib.hid hlen
    clear hlen
    go_enter Tryd.func46, Tryd.ntmps46
    go_wp2_with fail
    go_loopw [0, 3] (fun a v wr => ∃ (m : Nat) (q : List Int), a = .int .u64 m ∧ m ≤ n ∧ beB n = beB m ++ q ∧ ownY wr w.heap.size v q ∧ Below w.heap.size w wr) (fun a _ _ => (intOf a).toNat)
    case atStart => exact ⟨n, [], rfl, Nat.le_refl _, by simp, (.inl ⟨rfl, .inl ⟨rfl, rfl⟩⟩), Below.refl _ _⟩
    case round =>
      obtain ⟨m, q, rfl, hmn, hq, hown, hbel⟩ := hrel
      have hw : w.heap.size ≤ wr.heap.size := hbel.size
      have HB := Lib.hid hbel
      have HO := Lib.hid hown
      have HQ := Lib.hid hq
      have hql : q.length ≤ 8 := by have := HLN.out; rw [hq, List.length_append] at this; omega
      clear hbel hown hq
      by_cases hm : m = 0
      · subst hm
        obtain ⟨a, c, rfl⟩ := Rd.shape HO.out.rd
        have e1 : (256 : Int) ≠ 0 := by omega
        go_wp2_with (at_builtin; refine wpList_append_own_g _ rfl _ _ 24 rfl w.heap.size 5 i0 (.int .u8 0) 1 1 Tryd.underlying24 HI.out.1 HI.out.2.1 HI.out.2.2.1 HI.out.2.2.2 rfl (by decide) _ _ _ rfl (ownY_lit0 wr w.heap.size [247 + (q.length : Int)] hw (by simp)) _ _ _ rfl (HO.out.rd.alloc _) (ints_oneCell .u8 _) (1 + q.length) rfl (by omega) (by unfold maxLen; omega) (by omega) (by simp; omega) ?_; intro g cap w1 hown1 hgrow1)
        go_ret
        have e2 : ((1 + q.length : Nat)) = ((247 + (q.length : Int)) :: q).length := by simp; omega
        refine ⟨_, rfl, ?_, (HB.out.alloc hw _).grown hgrow1 (by simp; omega) (fun k hk => by cases hk; exact hw)⟩
        rw [HN.out, HQ.out, beB_zero, List.nil_append]
        refine .inl ?_
        rw [← e2]
        exact hown1
      · go_wp2_with (at_builtin; refine wpList_append_own_g _ rfl _ _ 24 rfl w.heap.size 5 i0 (.int .u8 0) 1 1 Tryd.underlying24 HI.out.1 HI.out.2.1 HI.out.2.2.1 HI.out.2.2.2 rfl (by decide) _ _ _ rfl (ownY_lit0 wr w.heap.size [((m % 256 : Nat) : Int)] hw (by simp)) _ _ _ rfl (HO.out.rd.alloc _) (ints_oneCell .u8 _) (1 + q.length) rfl (by omega) (by unfold maxLen; omega) (by omega) (by simp; omega) ?_; intro g cap w1 hown1 hgrow1)
        refine ⟨⟨m / 256, ((m % 256 : Nat) : Int) :: q, by congr 1, by omega, ?_, ?_, (HB.out.alloc hw _).grown hgrow1 (by simp; omega) (fun k hk => by cases hk; exact hw)⟩, by simp only [intOf]; omega⟩
        · rw [HQ.out, beB_pos (by omega : 0 < m), List.append_assoc]; rfl
        · have e2 : ((1 + q.length : Nat)) = (((m % 256 : Nat) : Int) :: q).length := by simp; omega
          refine .inl ?_
          rw [← e2]
          exact hown1
end Go.Proofs.YtnanlkoldloolaaDoor
