/- The walk of InstPacks: instructions have their bytes one behind the other, and are read again; all other bytes are refused. -/
import Derived.Test.YtlnaaoigggfefaaY
import Derived.Test.YtlnaaoigggfefaaUp
namespace Go.Proofs.Ytlnaaoigggfefaa
open Go.RowKit

/-- What several instructions pack to, and with which number. -/
def pkR (l : List W) : List Int × Int := if l.all formB then (packL l, 0) else ([], 3)
/-- What bytes unpack to, and with which number. -/
def unR (l : List Int) : List W × Int := match unpL 262144 l with
  | .ok ws => (ws, 0)
  | .error k => ([], k)

theorem pack_r (v : Value) (l : List W) (w : World) (hv : RdW w v l) (hok : ∀ x ∈ l, x.ok) (hlen : l.length ≤ 262144) :
    Calls Try.prog 20 #[v] w fun e w' => ∃ v', e = .returned (.tuple #[v', .int .i64 (pkR l).2]) ∧ RdB w' v' (pkR l).1 ∧ Below w.heap.size w w' := by
  refine (pack_any v l w hv hok hlen).mono ?_
  rintro e w' ⟨⟨ha, v', rfl, hr⟩ | ⟨ha, rfl⟩, hb⟩
  · exact ⟨v', by simp [pkR, ha], by simpa [pkR, ha] using hr, hb⟩
  · exact ⟨.slice none 0 0, by simp [pkR, ha], by simp only [pkR, ha]; exact Rd.nil w' 1, hb⟩
theorem refPack_r (v : Value) (l : List W) (w : World) (hv : RdW w v l) (hok : ∀ x ∈ l, x.ok) (hlen : l.length ≤ 262144) :
    Calls Try.prog 21 #[v] w fun e w' => ∃ v', e = .returned (.tuple #[v', .int .i64 (pkR l).2]) ∧ RdB w' v' (pkR l).1 ∧ Below w.heap.size w w' := by
  refine (refPack_any v l w hv hok hlen).mono ?_
  rintro e w' ⟨⟨ha, v', rfl, hr⟩ | ⟨ha, rfl⟩, hb⟩
  · exact ⟨v', by simp [pkR, ha], by simpa [pkR, ha] using hr, hb⟩
  · exact ⟨.slice none 0 0, by simp [pkR, ha], by simp only [pkR, ha]; exact Rd.nil w' 1, hb⟩
theorem unPost_r {l : List Int} {w w' : World} {e : Ending} (h : UnPost l w e w') : ∃ v', e = .returned (.tuple #[v', .int .i64 (unR l).2]) ∧ RdW w' v' (unR l).1 ∧ Below w.heap.size w w' := by
  obtain ⟨⟨ws, v', hu, rfl, hr⟩ | ⟨k, hu, rfl⟩, hb⟩ := h
  · exact ⟨v', by simp [unR, hu], by simpa [unR, hu] using hr, hb⟩
  · exact ⟨.slice none 0 0, by simp [unR, hu], by simp only [unR, hu]; exact Rd.nil w' 5, hb⟩
theorem unpack_r (v : Value) (l : List Int) (w : World) (hv : RdB w v l) (hB : isB l) : Calls Try.prog 23 #[v] w fun e w' => ∃ v', e = .returned (.tuple #[v', .int .i64 (unR l).2]) ∧ RdW w' v' (unR l).1 ∧ Below w.heap.size w w' :=
  (unpack_any v l w hv hB).mono fun _ _ h => unPost_r h
theorem refUnpack_r (v : Value) (l : List Int) (w : World) (hv : RdB w v l) (hB : isB l) : Calls Try.prog 24 #[v] w fun e w' => ∃ v', e = .returned (.tuple #[v', .int .i64 (unR l).2]) ∧ RdW w' v' (unR l).1 ∧ Below w.heap.size w w' :=
  (refUnpack_any v l w hv hB).mono fun _ _ h => unPost_r h

theorem encW_bd' {x : W} (hx : x.ok) : isB (encL x) := encL_bd x hx.1 hx.2.1 hx.2.2.1 hx.2.2.2.1
theorem pkR_bd {l : List W} (h : ∀ x ∈ l, x.ok) : isB (pkR l).1 := by
  unfold pkR
  split
  · exact packL_bd fun x hx => encW_bd' (h x hx)
  · exact fun x hx => nomatch hx
theorem pkR_un {l : List W} (h : ∀ x ∈ l, x.ok) (hlen : l.length ≤ 262144) : (pkR l).2 = 3 ∨ (pkR l).2 = 0 ∧ unR (pkR l).1 = (l, 0) := by
  unfold pkR
  split
  · rename_i ha
    refine .inr ⟨rfl, ?_⟩
    show unR (packL l) = _
    unfold unR
    rw [unpL_pack l 262144 hlen h ha (fun x hx => encW_bd' (h x hx))]
  · exact .inl rfl

theorem own_nilW (w : World) (base : Nat) (hb : base ≤ w.heap.size) :
    (w.alloc (.cells #[] 26)).ownsRow base 26 5 (.slice (some ⟨w.heap.size, 0, none⟩) 0 0) 0 [] :=
  World.ownsRow_lit (e := 26) (size := 5) (base := base) w #[] 0 hb (by unfold maxLen; omega) (by simp)

theorem eqL_refl (l : List Int) : eqL l l = true := decide_eq_true rfl
theorem rdW_cap {w : World} {a : Option Addr} {c n : Nat} {l : List W} (h : RdW w (.slice a n c) l) : n ≤ c ∧ c ≤ 9223372036854775807 := by
  rcases h.2 with ⟨h1, _⟩ | ⟨a', c', h1, h2, h3, _⟩
  · cases h1; omega
  · simp only [Value.slice.injEq] at h1
    obtain ⟨_, rfl, rfl⟩ := h1
    unfold maxLen at h3
    omega
theorem rdB_cap' {w : World} {a : Option Addr} {c n : Nat} {l : List Int} (h : RdB w (.slice a n c) l) : n ≤ c ∧ c ≤ 9223372036854775807 := by
  rcases h.2 with ⟨h1, _⟩ | ⟨a', c', h1, h2, h3, _⟩
  · cases h1; omega
  · simp only [Value.slice.injEq] at h1
    obtain ⟨_, rfl, rfl⟩ := h1
    unfold maxLen at h3
    omega
theorem rdB_take' {w : World} {a : Option Addr} {c n k : Nat} {l : List Int} (h : RdB w (.slice a n c) l) (hk : k ≤ n) (hn : n = l.length := by rfl) : RdB w (.slice a k c) (l.take k) := by
  subst hn
  have := Rd.take h hk
  unfold RdB
  rw [List.length_take, Nat.min_eq_left hk, List.map_take]
  simpa using this

set_option maxHeartbeats 4000000 in
set_option maxRecDepth 100000 in
theorem instPacks_walk (vl vp : Value) (l : List W) (p : List Int) (w : World) (hl : RdW w vl l) (hok : ∀ x ∈ l, x.ok) (hp : RdB w vp p) (hB : isB p) :
    Calls Try.prog 6 #[vl, vp] w fun e w' => e = .returned (.bool true) ∧ Below w.heap.size w w' := by
  obtain ⟨a, c, rfl⟩ := Rd.shape hl
  obtain ⟨pa, pc, rfl⟩ := Rd.shape hp
  obtain ⟨i0, hi0, hz0, hz1, hz2⟩ := info_parts infoB
  obtain ⟨iw, wi0, wz0, wz1, wz2⟩ := info_parts infoW
  have hcl := rdW_cap hl
  have hcp := rdB_cap' hp
  obtain ⟨k, hk, hk500, hkm⟩ : ∃ k : Nat, k ≤ l.length ∧ k ≤ 500 ∧ (if (500 : Int) < (l.length : Int) then (500 : Int) else (l.length : Int)) = (k : Int) := ⟨min l.length 500, by omega, by omega, by split <;> omega⟩
  obtain ⟨j, hj, hj3, hjm⟩ : ∃ j : Nat, j ≤ p.length ∧ j ≤ 3000 ∧ (if (3000 : Int) < (p.length : Int) then (3000 : Int) else (p.length : Int)) = (j : Int) := ⟨min p.length 3000, by omega, by omega, by split <;> omega⟩
  have sl := fun W => run_slice_to (P := Try.prog) 41 26 Try.underlying41 wi0 wz1 a l.length c k (k : Int) rfl (by omega) W
  have sp := fun W => run_slice_to (P := Try.prog) 22 5 Try.underlying22 hi0 hz1 pa p.length pc j (j : Int) rfl (by omega) W
  have HL : Hid (RdW w (.slice a k c) (l.take k)) := hl.take hk
  have HP : Hid (RdB w (.slice pa j pc) (p.take j)) := rdB_take' hp hj
  have HPB : Hid (isB (p.take j)) := fun v hv => hB v (List.mem_of_mem_take hv)
  have hml : (l.take k).length ≤ 500 := by rw [List.length_take]; omega
  have hpl : (p.take j).length ≤ 3000 := by rw [List.length_take]; omega
  have HOK : Hid (∀ x ∈ l.take k, x.ok) := fun x hx => hok x (List.mem_of_mem_take hx)
  have hkl : k = (l.take k).length := by rw [List.length_take]; omega
  generalize l.take k = m at *
  generalize p.take j = q at *
  have HPK := Lib.hid (fun v w h => pack_r v m w h HOK.out (by omega))
  have HRK := Lib.hid (fun v w h => refPack_r v m w h HOK.out (by omega))
  have HPD := Lib.hid (pkR_bd HOK.out)
  have hun := pkR_un HOK.out (by omega)
  have HUQ := Lib.hid (fun v w h => unpack_r v q w h HPB.out)
  have HRQ := Lib.hid (fun v w h => refUnpack_r v q w h HPB.out)
  have HUB := Lib.hid (fun v w h => unpack_r v (pkR m).1 w h HPD.out)
  generalize pkR m = pk at *
  obtain ⟨bs, ke⟩ := pk
  generalize unR q = uq at *
  obtain ⟨us, ue⟩ := uq
  have b1 : 0 + m.length ≤ maxLen := by unfold maxLen; omega
  have b2 : (0 + m.length) * 16 ≤ 140737488355328 := by omega
  have HUN := Lib.hid hun
  clear hl hp hB hok hun
  go_enter Try.func6, Try.ntmps6
  go_wp2_with fail
  refine (awake_any _).mono ?_
  rintro e w1 ⟨rfl, hb1⟩
  have HB1 := Lib.hid hb1
  have HL1 : Hid (RdW w1 _ m) := HL.out.later hb1
  have HP1 : Hid (RdB w1 _ q) := HP.out.later hb1
  have hs1 := hb1.size
  clear hb1 HL HP
  subst hkl
  go_wp2_with (at_builtin; refine wpList_append_own_rd _ rfl _ _ 41 rfl w1.heap.size 26 iw (.agg #[.int .u8 0, .int .u8 0, .int .u8 0, .int .u8 0, .int .i64 0]) 5 16 Try.underlying41 wi0 wz0 wz1 wz2 rfl (by decide) _ 0 [] rfl (own_nilW w1 w1.heap.size (Nat.le_refl _)) _ m.length (cW m) rfl (HL1.out.alloc _) (cW_one _) b1 b2 (by simp) ?_; intro vm w2 hown2 hgrow2)
  have hb2 : Below w1.heap.size w1 w2 := ((Below.refl _ _).alloc (Nat.le_refl _) _).grown hgrow2 (by simp) (fun k hk => by cases hk; exact Nat.le_refl _)
  have hm2 : RdW w2 vm m := by
    have h := Rd.of_own hown2
    rw [Nat.zero_add, List.nil_append] at h
    exact h
  have HM2 := Lib.hid hm2
  have HB2 := Lib.hid (below_to HB1.out hb2)
  have HL2 : Hid (RdW w2 _ m) := HL1.out.later hb2
  have HP2 : Hid (RdB w2 _ q) := HP1.out.later hb2
  clear hown2 hgrow2 hm2 hb2 HB1 HL1 HP1 b1 b2
  go_wp2_with fail
  refine (HPK.out _ _ HM2.out).mono ?_
  rintro e w3 ⟨v3, rfl, hr3, hb3⟩
  have HB3 := Lib.hid (below_to HB2.out hb3)
  have HL3 : Hid (RdW w3 _ m) := HL2.out.later hb3
  have HP3 : Hid (RdB w3 _ q) := HP2.out.later hb3
  have HM3 : Hid (RdW w3 _ m) := HM2.out.later hb3
  have HA3 := Lib.hid hr3
  clear hr3 hb3 HB2 HL2 HP2 HM2 HPK
  go_wp2_with fail
  refine (HRK.out _ _ HL3.out).mono ?_
  rintro e w4 ⟨v4, rfl, hr4, hb4⟩
  have HB4 := Lib.hid (below_to HB3.out hb4)
  have HL4 : Hid (RdW w4 _ m) := HL3.out.later hb4
  have HP4 : Hid (RdB w4 _ q) := HP3.out.later hb4
  have HM4 : Hid (RdW w4 _ m) := HM3.out.later hb4
  have HA4 : Hid (RdB w4 _ bs) := HA3.out.later hb4
  have HR4 := Lib.hid hr4
  clear hr4 hb4 HB3 HL3 HP3 HM3 HA3 HRK
  go_wp2_with fail
  refine (sameBytes_any _ _ _ _ _ HA4.out HR4.out HPD.out HPD.out).mono ?_
  rw [eqL_refl]
  rintro e w5 ⟨rfl, rfl⟩
  go_wp2_with fail
  refine (same_any _ _ _ _ _ HM4.out HL4.out).mono ?_
  rw [decide_eq_true (rfl : m = m)]
  rintro e w5 ⟨rfl, hb5⟩
  have HB5 := Lib.hid (below_to HB4.out hb5)
  have HL5 : Hid (RdW w5 _ m) := HL4.out.later hb5
  have HP5 : Hid (RdB w5 _ q) := HP4.out.later hb5
  have HA5 : Hid (RdB w5 _ bs) := HA4.out.later hb5
  clear hb5 HB4 HL4 HP4 HA4 HM4 HR4
  go_wp2_with fail
  refine (spare_any _ q _ HP5.out (by omega)).mono ?_
  rintro e w6 ⟨u, rfl, hs6, hb6⟩
  have HB6 := Lib.hid (below_to HB5.out hb6)
  have HL6 : Hid (RdW w6 _ m) := HL5.out.later hb6
  have HP6 : Hid (RdB w6 _ q) := HP5.out.later hb6
  have HA6 : Hid (RdB w6 _ bs) := HA5.out.later hb6
  have HS6 := Lib.hid hs6
  clear hb6 hs6 HB5 HL5 HP5 HA5
  go_wp2_with fail
  refine (HUQ.out _ _ HS6.out.rd).mono ?_
  rintro e w7 ⟨v7, rfl, hr7, hb7⟩
  have HB7 := Lib.hid (below_to HB6.out hb7)
  have HL7 : Hid (RdW w7 _ m) := HL6.out.later hb7
  have HP7 : Hid (RdB w7 _ q) := HP6.out.later hb7
  have HA7 : Hid (RdB w7 _ bs) := HA6.out.later hb7
  have HS7 := Lib.hid (HS6.out.later hb7)
  have HX7 := Lib.hid hr7
  clear hb7 hr7 HB6 HL6 HP6 HA6 HS6 HUQ
  go_wp2_with fail
  refine (HRQ.out _ _ HP7.out).mono ?_
  rintro e w8 ⟨v8, rfl, hr8, hb8⟩
  have HB8 := Lib.hid (below_to HB7.out hb8)
  have HL8 : Hid (RdW w8 _ m) := HL7.out.later hb8
  have HP8 : Hid (RdB w8 _ q) := HP7.out.later hb8
  have HA8 : Hid (RdB w8 _ bs) := HA7.out.later hb8
  have HS8 := Lib.hid (HS7.out.later hb8)
  have HX8 : Hid (RdW w8 _ us) := HX7.out.later hb8
  have HY8 := Lib.hid hr8
  clear hb8 hr8 HB7 HL7 HP7 HA7 HS7 HX7 HRQ
  go_wp2_with fail
  refine (same_any _ _ _ _ _ HX8.out HY8.out).mono ?_
  rw [decide_eq_true rfl]
  rintro e w9 ⟨rfl, hb9⟩
  have HB9 := Lib.hid (below_to HB8.out hb9)
  have HL9 : Hid (RdW w9 _ m) := HL8.out.later hb9
  have HP9 : Hid (RdB w9 _ q) := HP8.out.later hb9
  have HA9 : Hid (RdB w9 _ bs) := HA8.out.later hb9
  have HS9 := Lib.hid (HS8.out.later hb9)
  clear hb9 HB8 HL8 HP8 HA8 HS8 HX8 HY8
  go_wp2_with fail
  refine (kept_any _ _ q _ HS9.out HP9.out HPB.out).mono ?_
  rintro e w10 ⟨rfl, rfl⟩
  rcases HUN.out with rfl | ⟨rfl, hun⟩
  · go_wp2_with fail
    go_ret
    exact ⟨rfl, HB9.out⟩
  · simp only [hun] at HUB
    clear hun
    go_wp2_with fail
    refine (HUB.out _ _ HA9.out).mono ?_
    rintro e w10 ⟨v10, rfl, hr10, hb10⟩
    have HB10 := Lib.hid (below_to HB9.out hb10)
    have HL10 : Hid (RdW w10 _ m) := HL9.out.later hb10
    have HZ10 := Lib.hid hr10
    clear hr10 hb10 HB9 HL9 HP9 HA9 HS9
    go_wp2_with fail
    refine (same_any _ _ _ _ _ HZ10.out HL10.out).mono ?_
    rw [decide_eq_true (rfl : m = m)]
    rintro e w11 ⟨rfl, hb11⟩
    have HB11 := Lib.hid (below_to HB10.out hb11)
    clear hb11
    go_wp2_with fail
    go_ret
    exact ⟨rfl, HB11.out⟩
end Go.Proofs.Ytlnaaoigggfefaa
