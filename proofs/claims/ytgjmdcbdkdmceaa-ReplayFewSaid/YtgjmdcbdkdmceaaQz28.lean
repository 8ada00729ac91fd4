/- Keep: Best. -/
import Derived.Test.YtgjmdcbdkdmceaaQz27
namespace Go.Proofs.Ytgjmdcbdkdmceaa
open Go.RowKit

def SBk (w1 : World) (Bs g i : Nat) (v : Value) (x : Int) (p : Value) (W : World) : Prop :=
  W.cell? ⟨Bs, 1, none⟩ = some v ∧ W.cell? ⟨g, i * 2, none⟩ = some (.int .i64 x) ∧ W.cell? ⟨g, i * 2 + 1, none⟩ = some p ∧ Hid (Below w1.heap.size w1 W)

set_option maxHeartbeats 4000000 in
theorem best_any (x : Int) (w : World) (base Bs : Nat) (most : Int) (v : Value) (l : List Mo) (S : List (Int × List Int)) (h : StAt w base Bs most v l S) (hR : RisS S) (hl : l.length ≤ 1000) (hbb : ∀ m ∈ S, m.2.length ≤ 1000000) :
    Calls Try.prog 51 #[.pointer (some ⟨Bs, 0, none⟩), .int .i64 x] w fun e w' =>
      ((∀ k, (hk : k < S.length) → x < S[k].1) ∧ e = .returned (.tuple #[.int .i64 0, .slice none 0 0, .bool false]) ∧ Below w.heap.size w w') ∨
      ∃ i, ∃ hi : i < S.length, S[i].1 ≤ x ∧ (∀ k, (hk : k < S.length) → i < k → x < S[k].1) ∧ ∃ q, e = .returned (.tuple #[.int .i64 S[i].1, q, .bool true]) ∧ ownB w' w.heap.size q S[i].2 ∧ Below w.heap.size w w' := by
  have HF := Lib.hid (find_any x w base Bs most v l S h hR hl)
  have HS := Lib.hid h
  have HRi := Lib.hid (h.rising hR)
  have HBB := Lib.hid hbb
  clear h hR hbb
  go_enter Try.func51, Try.ntmps51
  go_wp2_with fail
  refine HF.out.mono ?_
  rintro e w1 ⟨i, rfl, hf, hb⟩
  have HB := Lib.hid hb
  have HFi := Lib.hid hf
  have HS1 := Lib.hid (HS.out.later hb)
  clear hf hb HF
  have hcase : (hasAt l i x = false ∧ i = 0) ∨ ∃ m, ∃ hm : m < l.length, l[m].1 ≤ x ∧ (∀ k, (hk : k < l.length) → m < k → x < l[k].1) ∧ ((hasAt l i x = true ∧ m = i) ∨ (hasAt l i x = false ∧ m + 1 = i)) := by
    cases hh : hasAt l i x with
    | true =>
      obtain ⟨hil, hix⟩ := has_at hh
      exact .inr ⟨i, hil, by omega, fun k hk hik => by have := HRi.out i k hil hk hik; omega, .inl ⟨rfl, rfl⟩⟩
    | false =>
      rcases Nat.eq_zero_or_pos i with h0 | h0
      · exact .inl ⟨rfl, h0⟩
      · have hle := HFi.out.le
        refine .inr ⟨i - 1, by omega, by have := HFi.out.lo (i - 1) (by omega) (by omega); omega, fun k hk hik => ?_, .inr ⟨rfl, by omega⟩⟩
        have h1 := HFi.out.hi k hk (by omega)
        have h2 := not_has HFi.out hh HRi.out k hk
        omega
  rcases hcase with ⟨hh, rfl⟩ | ⟨m, hm, hmx, hmk, hcs⟩
  · have HN := Lib.hid (not_has HFi.out hh HRi.out)
    rw [hh]
    clear hh
    go_wp2_with fail
    go_ret3
    refine .inl ⟨fun k hk => ?_, rfl, HB.out⟩
    have e := HS.out.len
    rw [← HS.out.ats k (by omega) hk]
    have h1 := HFi.out.hi k (by omega) (by omega)
    have h2 := HN.out k (by omega)
    omega
  · have HM := Lib.hid (And.intro hmx hmk)
    have hSm : m < S.length := by have := HS.out.len; omega
    rcases HS1.out.row.2 with ⟨h1, h2⟩ | ⟨g, c, cur, rfl, h2, h3, h4, h5, h6, h7⟩
    · omega
    · obtain ⟨d1, d2⟩ : w1.cell? ⟨g, m * 2, none⟩ = some (.int .i64 l[m].1) ∧ w1.cell? ⟨g, m * 2 + 1, none⟩ = some l[m].2 := by
        obtain ⟨e1, e2⟩ := cellsO_at l m hm
        have f1 := HS1.out.row.cells rfl _ _ e1
        have f2 := HS1.out.row.cells rfl _ _ e2
        rw [add_plain, Nat.zero_add] at f1 f2
        exact ⟨f1, f2⟩
      have c2 : w1.cell? ⟨Bs, 1, none⟩ = some (.slice (some ⟨g, 0, none⟩) l.length c) := by simp [World.cell?, HS1.out.at_]
      have hp := HS1.out.ps m hm hSm
      obtain ⟨pa, pc, hpp⟩ := (Rd.of_own hp).shape
      obtain ⟨y, hy⟩ : ∃ y, l[m].1 = y := ⟨_, rfl⟩
      have HY : Hid (y = S[m].1) := by rw [← hy]; exact HS1.out.ats m hm hSm
      rw [hpp] at hp d2
      rw [hy] at d1
      obtain ⟨pb, hpb⟩ : ∃ pb, pb = S[m].2 := ⟨_, rfl⟩
      have HPB := Lib.hid hpb
      have hpl : pb.length ≤ 1000000 := by rw [hpb]; exact HBB.out _ (List.getElem_mem hSm)
      rw [← hpb] at hp d2
      have hlt1 := HS1.out.lt
      have hglt : g < w1.heap.size := (Array.getElem?_eq_some_iff.1 h3).1
      have CL : Hid (∀ W, SBk w1 Bs g m (.slice (some ⟨g, 0, none⟩) l.length c) y (.slice pa pb.length pc) W → Calls Try.prog 73 #[.slice pa pb.length pc] W fun e w' => ∃ q, e = .returned q ∧ ownB w' w1.heap.size q pb ∧ SBk w1 Bs g m (.slice (some ⟨g, 0, none⟩) l.length c) y (.slice pa pb.length pc) w') := fun W hW => by
        refine (clone_any _ pb W (Rd.later (ownB.rd hp) hW.2.2.2.out) hpl).mono ?_
        rintro e w' ⟨q, rfl, hq, hb⟩
        have hle := hW.2.2.2.out.size
        refine ⟨q, rfl, ⟨hq.1, ?_⟩, ?_, ?_, ?_, hW.2.2.2.out.trans (hb.mono hle)⟩
        · rcases hq.2 with h | ⟨g', c', cur', e1, e2, e3⟩
          · exact .inl h
          · exact .inr ⟨g', c', cur', e1, by omega, e3⟩
        · rw [hb.cell (p := ⟨Bs, 1, none⟩) (by show Bs < _; omega)]; exact hW.1
        · rw [hb.cell (p := ⟨g, m * 2, none⟩) (by show g < _; omega)]; exact hW.2.1
        · rw [hb.cell (p := ⟨g, m * 2 + 1, none⟩) (by show g < _; omega)]; exact hW.2.2.1
      have hS0 : SBk w1 Bs g m (.slice (some ⟨g, 0, none⟩) l.length c) y (.slice pa pb.length pc) w1.drew := ⟨c2, d1, d2, (Below.refl _ _).drew⟩
      clear hp hpb hpp hy hmx hmk h2 h3 h4 h5 h6 h7
      rcases hcs with ⟨hh, rfl⟩ | ⟨hh, rfl⟩
      all_goals
        rw [hh]
        clear hh
        go_wp2_with fail
        go_region_held3 (fun W => W.cell? ⟨Bs, 1, none⟩ = some (.slice (some ⟨g, 0, none⟩) l.length c) ∧ W.cell? ⟨g, m * 2, none⟩ = some (.int .i64 y) ∧ W.cell? ⟨g, m * 2 + 1, none⟩ = some (.slice pa pb.length pc) ∧ Hid (Below w1.heap.size w1 W))
          (first | assumption | (exact ⟨k0, k1, k2, k3⟩))
          (first | (go_at_call 73; refine (CL.out _ (by assumption)).mono ?_; rintro e w4 ⟨q, rfl, hq, k0, k1, k2, k3⟩))
        all_goals
          go_wp2_with fail
          go_ret3
          refine .inr ⟨m, hSm, ?_, fun k hk hmk => ?_, q, by rw [← HY.out]; rfl, ?_, HB.out.trans (k3.out.mono HB.out.size)⟩
          · rw [← HS.out.ats m hm hSm]; exact HM.out.1
          · have e := HS.out.len
            rw [← HS.out.ats k (by omega) hk]; exact HM.out.2 k (by omega) hmk
          · rw [← HPB.out]
            refine ⟨hq.1, ?_⟩
            rcases hq.2 with h | ⟨g', c', cur', e1, e2, e3⟩
            · exact .inl h
            · exact .inr ⟨g', c', cur', e1, Nat.le_trans HB.out.size e2, e3⟩
end Go.Proofs.Ytgjmdcbdkdmceaa

/- Keep, plain: what Put makes of the moments. -/
namespace Go.Proofs.Ytgjmdcbdkdmceaa

abbrev Ms := List (Int × List Int)
theorem risS_iff {S : Ms} : RisS S ↔ S.Pairwise (fun a b => a.1 < b.1) := by
  rw [List.pairwise_iff_getElem]
  exact Iff.rfl
/-- Which has to go. -/
def goN (c : Int) (n : Nat) : Nat := ((if c < 0 then c % 2147483648 else c) % (n : Int)).toNat
theorem goN_lt {c : Int} {n : Nat} (h : 0 < n) : goN c n < n := by
  unfold goN
  generalize (if c < 0 then c % 2147483648 else c) = d
  have h1 := Int.emod_nonneg d (show (n : Int) ≠ 0 by omega)
  have h2 := Int.emod_lt_of_pos d (show (0 : Int) < (n : Int) by omega)
  omega
def insS (S : Ms) (x : Int) (b : List Int) : Ms := S.filter (fun m => decide (m.1 < x)) ++ (x, b) :: S.filter (fun m => decide (x < m.1))
def lessS (most : Int) (S : Ms) (c : Int) : Ms := if (S.length : Int) = most then S.eraseIdx (goN c S.length) else S
def putS (most : Int) (S : Ms) (x : Int) (b : List Int) (c : Int) : Ms :=
  if S.any (fun m => m.1 == x) then S.map (fun m => if m.1 = x then (x, b) else m) else insS (lessS most S c) x b

theorem filter_parts {S : Ms} {x : Int} {i : Nat} (hi : i ≤ S.length) (hlo : ∀ k, (hk : k < S.length) → k < i → S[k].1 < x) (hhi : ∀ k, (hk : k < S.length) → i ≤ k → x < S[k].1) :
    S.filter (fun m => decide (m.1 < x)) = S.take i ∧ S.filter (fun m => decide (x < m.1)) = S.drop i := by
  have h1 : ∀ m ∈ S.take i, m.1 < x := fun m hm => by
    obtain ⟨k, hk, rfl⟩ := List.getElem_of_mem hm
    rw [List.length_take] at hk
    rw [List.getElem_take]
    exact hlo k (by omega) (by omega)
  have h2 : ∀ m ∈ S.drop i, x < m.1 := fun m hm => by
    obtain ⟨k, hk, rfl⟩ := List.getElem_of_mem hm
    rw [List.length_drop] at hk
    rw [List.getElem_drop]
    exact hhi (i + k) (by omega) (by omega)
  have e : S = S.take i ++ S.drop i := (List.take_append_drop i S).symm
  constructor
  · rw [e, List.filter_append, List.filter_eq_self.2 (fun m hm => by simpa using h1 m (by simpa [← e] using hm)), List.filter_eq_nil_iff.2 (fun m hm => by have := h2 m (by simpa [← e] using hm); simp; omega), List.append_nil]
    simp
  · rw [e, List.filter_append, List.filter_eq_nil_iff.2 (fun m hm => by have := h1 m (by simpa [← e] using hm); simp; omega), List.filter_eq_self.2 (fun m hm => by simpa using h2 m (by simpa [← e] using hm)), List.nil_append]
    simp
theorem insS_at {S : Ms} {x : Int} {b : List Int} {i : Nat} (hi : i ≤ S.length) (hlo : ∀ k, (hk : k < S.length) → k < i → S[k].1 < x) (hhi : ∀ k, (hk : k < S.length) → i ≤ k → x < S[k].1) : insS S x b = S.take i ++ (x, b) :: S.drop i := by
  obtain ⟨h1, h2⟩ := filter_parts hi hlo hhi
  unfold insS
  rw [h1, h2]
theorem ris_ins {S : Ms} (h : RisS S) (x : Int) (b : List Int) : RisS (insS S x b) := by
  rw [risS_iff] at *
  unfold insS
  rw [List.pairwise_append, List.pairwise_cons]
  refine ⟨h.filter _, ⟨fun m hm => ?_, h.filter _⟩, fun m hm m' hm' => ?_⟩
  · simpa using (List.mem_filter.1 hm).2
  · have h1 : m.1 < x := by simpa using (List.mem_filter.1 hm).2
    rcases List.mem_cons.1 hm' with rfl | hm'
    · exact h1
    · have h2 : x < m'.1 := by simpa using (List.mem_filter.1 hm').2
      omega
theorem ris_less {S : Ms} (h : RisS S) (most c : Int) : RisS (lessS most S c) := by
  unfold lessS
  split
  · rw [risS_iff] at *
    exact h.sublist (List.eraseIdx_sublist _ _)
  · exact h
theorem ris_put {S : Ms} (h : RisS S) (most : Int) (x : Int) (b : List Int) (c : Int) : RisS (putS most S x b c) := by
  unfold putS
  split
  · intro i j hi hj hij
    have h2 := h i j (by simpa using hi) (by simpa using hj) hij
    have key : ∀ m : Int × List Int, (if m.1 = x then (x, b) else m).1 = m.1 := fun m => by split <;> simp_all
    simp only [List.getElem_map, key]
    exact h2
  · exact ris_ins (ris_less h most c) x b
theorem set_map {S : Ms} (hr : RisS S) {x : Int} {b : List Int} {i : Nat} (hi : i < S.length) (hx : S[i].1 = x) : S.set i (x, b) = S.map (fun m => if m.1 = x then (x, b) else m) := by
  apply List.ext_getElem
  · simp
  · intro k h1 h2
    rw [List.getElem_set, List.getElem_map]
    by_cases e : i = k
    · subst e; rw [if_pos rfl, if_pos hx]
    · rw [if_neg e, if_neg]
      intro hk
      have hkl : k < S.length := by simpa using h1
      rcases Nat.lt_trichotomy i k with h | h | h
      · have := hr i k hi hkl h; omega
      · exact e h
      · have := hr k i hkl hi h; omega
end Go.Proofs.Ytgjmdcbdkdmceaa

/- Keep: Put, first part: a moment that is there gets other bytes. -/
namespace Go.Proofs.Ytgjmdcbdkdmceaa
open Go.RowKit

def SPk (w1 : World) (Bs g o : Nat) (v : Value) (p : Value) (W : World) : Prop :=
  W.cell? ⟨Bs, 1, none⟩ = some v ∧ W.cell? ⟨g, o, none⟩ = some p ∧ W.frozen? ⟨g, o, none⟩ = false ∧ Hid (Below w1.heap.size w1 W)
theorem clone_sp {pv : Value} {pb : List Int} {w1 : World} {Bs g o : Nat} {v p : Value} (hp : RdB w1 pv pb) (hl : pb.length ≤ 1000000) (hB : Bs < w1.heap.size) (hg : g < w1.heap.size) :
    ∀ W, SPk w1 Bs g o v p W → Calls Try.prog 73 #[pv] W fun e w' => ∃ q, e = .returned q ∧ ownB w' w1.heap.size q pb ∧ SPk w1 Bs g o v p w' := fun W hW => by
  refine (clone_any pv pb W (Rd.later hp hW.2.2.2.out) hl).mono ?_
  rintro e w' ⟨q, rfl, hq, hb⟩
  have hle := hW.2.2.2.out.size
  refine ⟨q, rfl, ⟨hq.1, ?_⟩, ?_, ?_, ?_, hW.2.2.2.out.trans (hb.mono hle)⟩
  · rcases hq.2 with h | ⟨g', c', cur', e1, e2, e3⟩
    · exact .inl h
    · exact .inr ⟨g', c', cur', e1, by omega, e3⟩
  · rw [hb.cell (p := ⟨Bs, 1, none⟩) (by show Bs < _; omega)]; exact hW.1
  · rw [hb.cell (p := ⟨g, o, none⟩) (by show g < _; omega)]; exact hW.2.1
  · rw [World.frozen?_of_block (a := ⟨g, o, none⟩) (hb.block g (by omega))]; exact hW.2.2.1

theorem own_set {w : World} {base g n c : Nat} {e : TypeId} {size : Nat} {xs : List Value} (h : w.ownsRow base e size (.slice (some ⟨g, 0, none⟩) n c) n xs) (o : Nat) (v : Value) : (w.setCell ⟨g, o, none⟩ v).ownsRow base e size (.slice (some ⟨g, 0, none⟩) n c) n (xs.set o v) := by
  obtain ⟨hl, h2⟩ := h
  rcases h2 with ⟨h1, _⟩ | ⟨g', cap, cur, h1, hb, hg, h3, h4, h5, h6⟩
  · cases h1
  · cases h1
    refine ⟨by simpa using hl, .inr ⟨g, c, cur.setIfInBounds o v, rfl, hb, ?_, h3, h4, by simpa using h5, ?_⟩⟩
    · simp [World.setCell, Array.getElem?_modify, hg]
    · rw [← h6, Array.toList_setIfInBounds, List.take_set]
theorem cellsO_set : ∀ (l : List Mo) (i : Nat) (hi : i < l.length) (q : Value), (cellsO l).set (i * 2 + 1) q = cellsO (l.set i (l[i].1, q))
  | m :: r, 0, _, q => rfl
  | m :: r, i + 1, hi, q => by
    have e : (i + 1) * 2 + 1 = i * 2 + 1 + 1 + 1 := by omega
    rw [e]
    show _ :: _ :: (cellsO r).set (i * 2 + 1) q = _
    rw [cellsO_set r i (by simpa using hi) q]
    rfl
theorem Prs.set {w : World} {base : Nat} : ∀ {l : List Mo} {S : List (Int × List Int)} (i : Nat) {m : Mo} {s : Int × List Int}, m.1 = s.1 → ownB w base m.2 s.2 → Prs w base l S → Prs w base (l.set i m) (S.set i s)
  | [], [], _i, _, _, _, _, h => h
  | _a :: _l, _b :: _S, 0, _, _, h1, h2, h => ⟨⟨h1, h2⟩, h.2⟩
  | _a :: _l, _b :: _S, i + 1, _, _, h1, h2, h => ⟨h.1, Prs.set i h1 h2 h.2⟩
theorem StAt.setP {w : World} {base Bs g c i : Nat} {most : Int} {l : List Mo} {S : Ms} {q : Value} {pb : List Int} {x : Int} (h : StAt w base Bs most (.slice (some ⟨g, 0, none⟩) l.length c) l S) (hi : i < l.length) (hx : l[i].1 = x) (hq : ownB w base q pb) :
    StAt (w.setCell ⟨g, i * 2 + 1, none⟩ q) base Bs most (.slice (some ⟨g, 0, none⟩) l.length c) (l.set i (l[i].1, q)) (S.set i (x, pb)) ∧ KeepS w (w.setCell ⟨g, i * 2 + 1, none⟩ q) ∧ base ≤ g := by
  obtain ⟨hbg, cur, hg⟩ := own_blk h.row g rfl
  have hne : ∀ {k : Nat} {c' : Array Value} {t : TypeId} {f : Nat × Nat}, w.heap[k]? = some (.cells c' t f) → t ≠ 132 → (w.setCell ⟨g, i * 2 + 1, none⟩ q).heap[k]? = w.heap[k]? := fun {k c' t f} hk ht => Below.heap_setCell _ _ _ _ (blk_ne hk hg (cells_ne ht))
  have hp2 : ∀ p b, ownB w base p b → ownB (w.setCell ⟨g, i * 2 + 1, none⟩ q) base p b := fun p b hpb => own_same hpb fun k hk => by
    obtain ⟨_, cur2, hc⟩ := own_blk hpb k hk
    exact hne hc (by decide)
  refine ⟨StAt.mk' ?_ h.lb ?_ ((h.prs.map hp2).set i (by rw [← hx]) (hp2 _ _ hq)), fun k o hk ha hb => ?_, hbg⟩
  · rw [hne h.at_ (by decide)]; exact h.at_
  · have := own_set h.row (i * 2 + 1) q
    rw [cellsO_set l i hi] at this
    show World.ownsRow _ _ _ _ _ _ _
    rw [List.length_set]
    exact this
  · rw [← hk]
    refine Below.heap_setCell _ _ _ _ (fun e => ?_)
    subst e
    rw [hg] at hk
    exact ha _ _ (Option.some.inj hk).symm

set_option maxHeartbeats 4000000 in
theorem put_there (x : Int) (pv : Value) (pb : List Int) (choice : Int) (w : World) (base Bs : Nat) (most : Int) (v : Value) (l : List Mo) (S : Ms) (h : StAt w base Bs most v l S) (hR : RisS S) (hl : l.length ≤ 1000) (hpv : RdB w pv pb) (hpl : pb.length ≤ 1000000) (hx0 : 0 ≤ x) (hbase : base ≤ w.heap.size)
    (hany : ∃ i, ∃ hi : i < S.length, S[i].1 = x) :
    Calls Try.prog 55 #[.pointer (some ⟨Bs, 0, none⟩), .int .i64 x, pv, .int .i64 choice] w fun e w' =>
      e = .returned (.int .i64 0) ∧ ∃ v' l', StAt w' base Bs most v' l' (putS most S x pb choice) ∧ Below base w w' ∧ KeepS w w' ∧ KeepX w w' Bs v ∧ fromS w v v' ∧ fromL w l l' := by
  have HF := Lib.hid (find_any x w base Bs most v l S h hR hl)
  have HS := Lib.hid h
  have HRi := Lib.hid (h.rising hR)
  have HRs := Lib.hid hR
  have HPV := Lib.hid hpv
  have hxx : decide (x < 0) = false := decide_eq_false (by omega)
  obtain ⟨pa, pc, rfl⟩ := Rd.shape hpv
  clear h hR hpv
  go_enter Try.func55, Try.ntmps55
  go_wp2_with fail
  refine HF.out.mono ?_
  rintro e w1 ⟨i, rfl, hf, hb⟩
  have HB := Lib.hid hb
  have HFi := Lib.hid hf
  have HS1 := Lib.hid (HS.out.later hb)
  have hPV1 : RdB w1 _ pb := HPV.out.later hb
  clear hf hb HF
  cases hh : hasAt l i x with
  | false =>
    exfalso
    obtain ⟨k, hk, e⟩ := hany
    have hk2 : k < l.length := by have := HS.out.len; omega
    exact not_has HFi.out hh HRi.out k hk2 (by rw [HS.out.ats k hk2 hk]; exact e)
  | true =>
    obtain ⟨hil, hix⟩ := has_at hh
    have HX := Lib.hid hix
    clear hh hix
    have hSi : i < S.length := by have := HS.out.len; omega
    rcases HS1.out.row.2 with ⟨h1, h2⟩ | ⟨g, c, cur, rfl, h2, h3, h4, h5, h6, h7⟩
    · omega
    · obtain ⟨q0, hq0⟩ : ∃ q0, l[i].2 = q0 := ⟨_, rfl⟩
      have d2 : w1.cell? ⟨g, i * 2 + 1, none⟩ = some q0 := by
        obtain ⟨e1, e2⟩ := cellsO_at l i hil
        have f2 := HS1.out.row.cells rfl _ _ e2
        rw [add_plain, Nat.zero_add] at f2
        rw [← hq0]; exact f2
      have c2 : w1.cell? ⟨Bs, 1, none⟩ = some (.slice (some ⟨g, 0, none⟩) l.length c) := by simp [World.cell?, HS1.out.at_]
      have f2 : w1.frozen? ⟨g, i * 2 + 1, none⟩ = false := by simp [World.frozen?, h3]
      have hlt1 := HS1.out.lt
      have hglt : g < w1.heap.size := (Array.getElem?_eq_some_iff.1 h3).1
      have CL := Lib.hid (clone_sp (Bs := Bs) (g := g) (o := i * 2 + 1) (v := .slice (some ⟨g, 0, none⟩) l.length c) (p := q0) hPV1 hpl hlt1 hglt)
      have hS0 : SPk w1 Bs g (i * 2 + 1) (.slice (some ⟨g, 0, none⟩) l.length c) q0 w1.drew := ⟨c2, d2, f2, (Below.refl _ _).drew⟩
      clear h2 h3 h4 h5 h6 h7 hq0 hany hPV1
      go_wp2_with fail
      go_region_with (go_at_call 73; refine (CL.out _ hS0).mono ?_; rintro e w4 ⟨q, rfl, hq, k0, k1, k2, k3⟩; obtain ⟨qa, qc, rfl⟩ := (Rd.of_own hq).shape)
      all_goals
        go_wp2_with fail
        go_ret
        have hS4 := HS1.out.later k3.out
        have hq4 : ownB w4 base (.slice qa pb.length qc) pb := by
          refine ⟨hq.1, ?_⟩
          rcases hq.2 with h | ⟨g', c', cur', e1, e2, e3⟩
          · exact .inl h
          · exact .inr ⟨g', c', cur', e1, Nat.le_trans (Nat.le_trans hbase HB.out.size) e2, e3⟩
        obtain ⟨r1, r2, r3⟩ := hS4.setP hil HX.out hq4
        have hput : putS most S x pb choice = S.set i (x, pb) := by
          have hsx : S[i].1 = x := by rw [← HS.out.ats i hil hSi]; exact HX.out
          rw [set_map HRs.out hSi hsx]
          unfold putS
          rw [if_pos]
          rw [List.any_eq_true]
          exact ⟨S[i], List.getElem_mem hSi, by simpa using hsx⟩
        refine ⟨rfl, _, _, by rw [hput]; exact r1, ?_, (KeepS.of_below (HB.out.trans (k3.out.mono HB.out.size))).trans r2, ?_, .inl rfl, ?_⟩
        · exact ((HB.out.trans (k3.out.mono HB.out.size)).mono hbase).setCell r3 _
        · intro k hk ha hb
          rw [Below.heap_setCell _ _ _ _ (fun e => hb (by rw [e]; rfl))]
          exact (HB.out.trans (k3.out.mono HB.out.size)).block k hk
        · intro m hm
          rcases mem_set hm with h | rfl
          · exact .inl h
          · exact .inr fun k hk => Nat.le_trans HB.out.size (own_blk hq k hk).1
end Go.Proofs.Ytgjmdcbdkdmceaa
