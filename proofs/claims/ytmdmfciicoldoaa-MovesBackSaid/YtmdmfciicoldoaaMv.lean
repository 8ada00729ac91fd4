/- The walk of MovesTurn. -/
import Derived.Test.YtmdmfciicoldoaaMu
namespace Go.Proofs.Ytmdmfciicoldoaa
open Go.RowKit Go.Maps

theorem turn_in (ks : List Nat) (hs : ks.sum ≤ 1000) : ∀ m ∈ turnL 0 ks, inR m.1 ∧ inR m.2 := by
  have hr : Rings (turnL 0 ks) 0 ks := rings_of ks 0 [] rfl
  have key : ∀ (ks' : List Nat) (o : Nat), o + ks'.sum ≤ 1000 → Rings (turnL 0 ks) o ks' → ∀ i, o ≤ i → i < o + ks'.sum → ∃ x y : Nat, (turnL 0 ks)[i]? = some ((x : Int), (y : Int)) ∧ x ≤ 2000 ∧ y ≤ 2000 := by
    intro ks'
    induction ks' with
    | nil => intro o h _ i h1 h2; simp at h2; omega
    | cons k r ih =>
      intro o hle hR i h1 h2
      obtain ⟨hr1, hr2⟩ := hR
      rw [List.sum_cons] at h2 hle
      by_cases h : i < o + k
      · have := hr1 (i - o) (by omega)
        rw [show o + (i - o) = i by omega] at this
        refine ⟨_, _, this, by omega, ?_⟩
        have := Nat.mod_lt (i - o + 1) (show 0 < k by omega)
        omega
      · exact ih (o + k) (by omega) hr2 i (by omega) (by omega)
  intro m hm
  obtain ⟨i, hi, rfl⟩ := List.getElem_of_mem hm
  have hlen := turnL_len ks 0
  obtain ⟨x, y, he, h1, h2⟩ := key ks 0 (by omega) hr i (by omega) (by omega)
  obtain ⟨_, he⟩ := List.getElem?_eq_some_iff.1 he
  rw [he]
  exact ⟨⟨by simp only; omega, by simp only; omega⟩, ⟨by simp only; omega, by simp only; omega⟩⟩

/-- The rings' sizes, of bytes. -/
def sizesL (l : List Int) : List Nat := l.map fun x => (x % 9).toNat
theorem sizes_sum : ∀ (l : List Int), isB l → (sizesL l).sum ≤ 8 * l.length
  | [], _ => by simp [sizesL]
  | x :: r, h => by
    have h1 := sizes_sum r (fun v hv => h v (by simp [hv]))
    have h2 := h x (by simp)
    show (x % 9).toNat + (sizesL r).sum ≤ 8 * (r.length + 1)
    omega
theorem sizes_next {l : List Int} {j : Nat} (hj : j < l.length) {n : Int} (hn : l.getD j 0 = n) : sizesL (l.take (j + 1)) = sizesL (l.take j) ++ [(n % 9).toNat] := by
  rw [List.take_succ_eq_append_getElem hj]
  unfold sizesL
  rw [List.map_append]
  have : l[j] = n := by simpa [hj] using hn
  simp [this]
theorem ringsN_snoc (ks : List Nat) (k : Nat) : ringsN (ks ++ [k]) = ringsN ks + (if 2 ≤ k then 1 else 0) := by
  unfold ringsN
  rw [List.countP_append, List.countP_singleton]
  by_cases h : 2 ≤ k <;> simp [h]
theorem ringsN_le (ks : List Nat) : ringsN ks ≤ ks.length := List.countP_le_length

structure TL (w wr : World) (L : List M) (v : Value) : Prop where
  bel : Below w.heap.size w wr
  own : ownM wr w.heap.size 31 v L

set_option maxHeartbeats 8000000 in
set_option maxRecDepth 100000 in
theorem movesTurn_walk (v : Value) (l : List Int) (w : World) (hv : RdB w v l) (hB : isB l) :
    Calls Try.prog 5 #[v] w fun e w' => e = .returned (.bool true) ∧ Below w.heap.size w w' := by
  obtain ⟨va, vc, rfl⟩ := Rd.shape hv
  obtain ⟨im, mi0, mz0, mz1, mz2⟩ := info_parts infoR
  have HV := Lib.hid hv
  have HBy := Lib.hid hB
  have hl9 := hv.le
  clear hv hB
  go_enter Try.func5, Try.ntmps5
  go_wp2_with fail
  refine (awake_any _).mono ?_
  rintro e w1 ⟨rfl, hb1⟩
  have HB1 := Lib.hid hb1
  have HV1 : Hid (RdB w1 _ l) := HV.out.later hb1
  have hz1 := hb1.size
  clear hb1 HV
  -- behind the loop
  have HEnd : Hid (∀ (ks : List Nat), ks.sum ≤ 100 → Dist (turnL 0 ks) ∧ SpOK (turnL 0 ks) 0 ∧ circN (turnL 0 ks) = ringsN ks) := fun ks _ => turn_facts ks
  go_wp2_with fail
  go_loopw [16, 3, 4, 5] (fun i s3 s4 s5 wr => ∃ (j : Nat) (L : List M), j ≤ l.length ∧ j ≤ 8 ∧ i = .int .i64 j ∧ s4 = .int .i64 ((1 + (sizesL (l.take j)).sum : Nat) : Int) ∧ s5 = .int .i64 (ringsN (sizesL (l.take j))) ∧ Hid (L = turnL 0 (sizesL (l.take j))) ∧ Hid (TL w1 wr L s3)) (fun i _ _ _ _ => l.length - (intOf i).toNat)
  case atStart => exact ⟨0, [], by omega, by omega, rfl, rfl, rfl, rfl, Below.refl _ _, ownM_nil _ _ _⟩
  case round =>
    obtain ⟨wa, rfl⟩ : ∃ wa : World, wa = wr := ⟨_, rfl⟩
    obtain ⟨j, L, hj, hj8, rfl, rfl, rfl, HL, HT⟩ := hrel
    obtain ⟨ta, tc, rfl⟩ := ownM_shape HT.out.own
    have hsz := HT.out.bel.size
    have hlt8 : (l.take j).length ≤ 8 := by rw [List.length_take]; omega
    have hsum := sizes_sum (l.take j) (fun v hv => HBy.out v (List.mem_of_mem_take hv))
    have hrn := ringsN_le (sizesL (l.take j))
    have hrl : (sizesL (l.take j)).length = (l.take j).length := by simp [sizesL]
    obtain ⟨ks, hks⟩ : ∃ ks, sizesL (l.take j) = ks := ⟨_, rfl⟩
    rw [hks] at HL hsum hrn hrl
    have HKS := Lib.hid hks
    have hs100 : ks.sum ≤ 64 := by omega
    have hr8 : ringsN ks ≤ 8 := by omega
    rw [hks]
    have hLl : L.length = ks.sum := by rw [HL.out, turnL_len]
    clear hks hsum hrn hrl hlt8
    by_cases hgo : j < l.length ∧ j < 8
    · obtain ⟨hlt, hj7⟩ := hgo
      have hj7i : ¬ (8 : Int) ≤ (j : Int) := by omega
      have HLl := Lib.hid hLl
      clear hLl
      rcases HV1.out.split with ⟨a, c, h0, rfl⟩ | ⟨b, off, c, h0, hp, hlc, hc9, hb, hcell⟩
      · simp at hlt
      · simp only [Value.slice.injEq] at h0
        obtain ⟨rfl, -, rfl⟩ := h0
        have d1 := hcell j hlt
        rw [← HT.out.bel.cell (p := ⟨b, off + j, none⟩) hb] at d1
        have hbr : b < wa.heap.size := Nat.lt_of_lt_of_le hb hsz
        obtain ⟨x, hx⟩ : ∃ x, l.getD j 0 = x := ⟨_, rfl⟩
        have hxb : 0 ≤ x ∧ x ≤ 255 := by
          rw [← hx]
          have : l.getD j 0 = l[j] := by simp [hlt]
          rw [this]
          exact HBy.out _ (List.getElem_mem hlt)
        obtain ⟨k, hk, hk8⟩ : ∃ k : Nat, x % 9 = (k : Int) ∧ k ≤ 8 := ⟨(x % 9).toNat, by omega, by omega⟩
        have HNext : Hid (sizesL (l.take (j + 1)) = ks ++ [k]) := by
          show _ = _
          rw [sizes_next hlt hx, HKS.out, hk]; rfl
        rw [hx] at d1
        clear hx hcell
        have hk0 : ks.sum + k ≤ 72 := by omega
        have HE1 : Hid ((ks ++ [k]).sum = ks.sum + k) := by simp [Lib.hid, Hid]
        have HE2 := Lib.hid (ringsN_snoc ks k)
        by_cases hk2 : 2 ≤ k
        all_goals
          have hk2i : decide ((2 : Int) ≤ (k : Int)) = decide (2 ≤ k) := decide_eq_decide.2 (by omega)
          simp only [hk2, decide_true, decide_false] at hk2i
          simp only [hk2, if_true, if_false] at HE2
          go_wp2_with fail
          go_loopw [31, 3] (fun i s3 wr => ∃ (t : Nat) (L2 : List M), t ≤ k ∧ i = .int .i64 t ∧ Hid (L2 = L ++ (ringL ks.sum k).take t) ∧ Hid (TL w1 wr L2 s3)) (fun i _ _ => k - (intOf i).toNat)
          case atStart => exact ⟨0, L, by omega, rfl, by simp [Hid], HT⟩
          case round =>
            obtain ⟨t, L2, ht, rfl, HL2, HQ⟩ := hrel
            obtain ⟨qa, qc, rfl⟩ := ownM_shape HQ.out.own
            have hsz2 := HQ.out.bel.size
            by_cases htk : t < k
            · have hk0i : ((k : Int) == 0) = false := by simp; omega
              have hmlt := Nat.mod_lt (t + 1) (show 0 < k by omega)
              have HRS := Lib.hid (ringL_snoc ks.sum k t htk)
              have hll : L2.length ≤ 100 := by
                rw [HL2.out, List.length_append, HLl.out, List.length_take, ringL_len]; omega
              have HO1 : Hid (L2.length + 1 ≤ maxLen) := by show _ ≤ _; unfold maxLen; omega
              have HO2 : Hid ((L2.length + 1) * 16 ≤ 140737488355328) := by show _ ≤ _; omega
              have HW : Hid (wrap64 (1 + (ks.sum : Int) + ((t : Int) + 1) % (k : Int)) = ((1 + ks.sum + (t + 1) % k : Nat) : Int)) := by
                show _ = _
                have hmod : ((t : Int) + 1) % (k : Int) = (((t + 1) % k : Nat) : Int) := by push_cast; rfl
                rw [hmod, IntWalk.wrap64_in _ (by omega)]; push_cast; omega
              clear hll
              go_wp2_with (at_builtin; refine wpList_append_own_rd _ rfl _ _ 22 rfl w1.heap.size 31 im (.agg #[.int .i64 0, .int .i64 0]) 2 16 Try.underlying22 mi0 mz0 mz1 mz2 rfl (by decide) _ _ _ rfl (HQ.out.own.alloc _) (.slice (some ⟨wr.heap.size, 0, none⟩) 1 1) 1 (cellsM [(1 + (ks.sum : Int) + (t : Int), wrap64 (1 + (ks.sum : Int) + ((t : Int) + 1) % (k : Int)))]) rfl (rd_mone wr _ _ _ _ rfl) (cellsM_one _) HO1.out HO2.out (by simp; omega) ?_; intro v' w4 hown4 hgrow4)
              have hg4 := ownM_grow hown4 rfl
              rw [HW.out, HL2.out, List.append_assoc, show (1 + (ks.sum : Int) + (t : Int)) = ((1 + ks.sum + t : Nat) : Int) by push_cast; rfl, HRS.out] at hg4
              exact ⟨⟨t + 1, _, by omega, by go_num, rfl, (HQ.out.bel.alloc hsz2 _).grown hgrow4 (by simp; omega) (fun k hk => (HQ.out.own.lt k hk).1), hg4⟩, by simp [intOf]; omega⟩
            · obtain rfl : t = k := by omega
              have HL3 : Hid (L2 = turnL 0 (ks ++ [t])) := by
                show _ = _
                rw [HL2.out, HL.out, turnL_snoc, Nat.zero_add]
                have : (ringL ks.sum t).take t = ringL ks.sum t := by
                  have := List.take_length (l := ringL ks.sum t)
                  rwa [ringL_len] at this
                rw [this]
              go_wp2_with fail
              exact ⟨⟨j + 1, L2, by omega, by omega, by go_num, by rw [HNext.out, HE1.out]; go_num, by rw [HNext.out, HE2.out]; go_num, by rw [HNext.out]; exact HL3, HQ⟩, by simp [intOf]; omega⟩
    · have HBa := Lib.hid (HB1.out.trans (HT.out.bel.mono HB1.out.size))
      have HR : Hid (∀ m ∈ L, inR m.1 ∧ inR m.2) := by rw [HL.out]; exact turn_in ks (by omega)
      have HDS : Hid (Dist L ∧ SpOK L 0) := by rw [HL.out]; exact ⟨(HEnd.out ks (by omega)).1, (HEnd.out ks (by omega)).2.1⟩
      have HCN : Hid (refCircF L = ((ringsN ks : Nat) : Int)) := by
        show _ = _
        rw [refCircF_is HDS.out.1, HL.out, (HEnd.out ks (by omega)).2.2]
      have HRP := Lib.hid (order_rightP HDS.out.1 HDS.out.2)
      have HOL := Lib.hid (order_len HDS.out.1 HDS.out.2)
      have HML : Hid (L.length ≤ 64) := by show _ ≤ _; omega
      have HVS := HV1
      have HBZ := Lib.hid HT.out.bel
      have HVL : Hid (RdM wa _ L) := HT.out.own.rd
      clear HL HT HKS hLl HBy HEnd
      obtain ⟨rn, hrn⟩ : ∃ rn, ringsN ks = rn := ⟨_, rfl⟩
      obtain ⟨nx, hnx⟩ : ∃ nx, 1 + ks.sum = nx := ⟨_, rfl⟩
      rw [hrn] at hr8 HCN
      rw [hrn, hnx]
      clear hrn hnx hs100
      have hend : j = l.length ∨ ∃ b off x, va = some ⟨b, off, none⟩ ∧ j = 8 ∧ 8 < l.length ∧ wa.cell? ⟨b, off + 8, none⟩ = some (.int .u8 x) ∧ b < wa.heap.size := by
        by_cases hje : j = l.length
        · exact .inl hje
        · obtain ⟨hlt, rfl⟩ : 8 < l.length ∧ j = 8 := by omega
          rcases HVS.out.split with ⟨a, c, h0, rfl⟩ | ⟨b, off, c, h0, hp, hlc, hc9, hb, hcell⟩
          · simp at hlt
          · simp only [Value.slice.injEq] at h0
            obtain ⟨rfl, -, rfl⟩ := h0
            have d1 := hcell 8 hlt
            rw [← HBZ.out.cell (p := ⟨b, off + 8, none⟩) hb] at d1
            exact .inr ⟨b, off, _, rfl, rfl, hlt, d1, Nat.lt_of_lt_of_le hb hsz⟩
      rcases hend with rfl | ⟨b, off, x, rfl, rfl, hlt, d1, hbr⟩
      all_goals
        go_wp2_with fail
        refine (list_any _ L _ HVL.out (by have := HML.out; omega)).mono ?_
        rintro e w2 ⟨u, rfl, hs2, hb2⟩
        have HB2 := Lib.hid (HBa.out.trans (hb2.mono HBa.out.size))
        have HV2 : Hid (RdM w2 _ L) := HVL.out.later hb2
        have HS2 := Lib.hid hs2
        clear hb2 hs2 HBa HVL
        go_wp2_with fail
        refine (order_any _ L 0 _ HS2.out.rd HR.out (by have := HML.out; omega)).mono ?_
        rintro e w3 ⟨hcase, hb3⟩
        have HB3 := Lib.hid (HB2.out.trans (hb3.mono HB2.out.size))
        have HV3 : Hid (RdM w3 _ L) := HV2.out.later hb3
        obtain ⟨ov, rfl, HO3⟩ : ∃ (ov : Value), e = .returned (.tuple #[ov, .int .i64 0]) ∧ Hid (RdM w3 ov (orderF L 0)) := by
          rcases hcase with ⟨h1, rfl⟩ | ⟨h1, v', rfl, h2⟩
          · exact absurd HDS.out h1
          · exact ⟨_, rfl, h2⟩
        clear hb3 hcase HB2 HV2 HS2
        go_wp2_with fail
        refine (list_any _ L _ HV3.out (by have := HML.out; omega)).mono ?_
        rintro e w4 ⟨u4, rfl, hs4, hb4⟩
        have HB4 := Lib.hid (HB3.out.trans (hb4.mono HB3.out.size))
        have HV4 : Hid (RdM w4 _ L) := HV3.out.later hb4
        have HO4 : Hid (RdM w4 _ (orderF L 0)) := HO3.out.later hb4
        have HS4 := Lib.hid hs4
        clear hb4 hs4 HB3 HV3 HO3
        go_wp2_with fail
        refine (circles_all _ L _ HS4.out.rd HR.out).mono ?_
        rintro e w5 ⟨rfl, hb5⟩
        have HB5 := Lib.hid (HB4.out.trans (hb5.mono HB4.out.size))
        have HV5 : Hid (RdM w5 _ L) := HV4.out.later hb5
        have HO5 : Hid (RdM w5 _ (orderF L 0)) := HO4.out.later hb5
        rw [HCN.out]
        clear hb5 HS4 HB4 HV4 HO4
        go_wp2_with fail
        refine (back_any _ _ _ HO5.out (by have := HOL.out; have := HML.out; omega)).mono ?_
        rintro e w7 ⟨v7, rfl, hr7, hb7⟩
        have HB7 := Lib.hid (HB5.out.trans (hb7.mono HB5.out.size))
        have HV7 : Hid (RdM w7 _ L) := HV5.out.later hb7
        have HR7 := Lib.hid hr7
        clear hb7 hr7 HB5 HV5 HO5
        go_wp2_with fail
        refine (right_any _ _ L _ 0 _ HV7.out HR7.out (by have := HML.out; omega) (by have := HOL.out; have := HML.out; omega) HRP.out).mono ?_
        rintro e w8 ⟨rfl, hb8⟩
        have HB8 := Lib.hid (HB7.out.trans (hb8.mono HB7.out.size))
        clear hb8
        go_wp2_with fail
        go_ret
        exact ⟨rfl, HB8.out⟩
end Go.Proofs.Ytmdmfciicoldoaa
