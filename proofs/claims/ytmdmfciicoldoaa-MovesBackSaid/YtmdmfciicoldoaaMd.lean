/- Walk: whence each place gets something, as the program finds it. -/
import Derived.Test.YtmdmfciicoldoaaMa
import Derived.Test.YtmdmfciicoldoaaMc
namespace Go.Proofs.Ytmdmfciicoldoaa
open Go.RowKit Go.Maps

theorem srcL_snoc (l : List M) (m : M) (x : Int) : srcL (l ++ [m]) x = (srcL l x).or (if m.1 = x ∧ m.2 ≠ x then some m.2 else none) := by
  unfold srcL
  rw [List.find?_append]
  cases h : l.find? (fun m => m.1 == x && !(m.2 == x)) with
  | some y => simp
  | none =>
    simp only [Option.none_or, Option.map_none, List.find?_singleton]
    by_cases hc : m.1 = x ∧ m.2 ≠ x
    · simp [hc.1, hc.2]
    · rw [if_neg hc]
      by_cases h1 : m.1 = x
      · have h2 : m.2 = x := Classical.byContradiction fun h => hc ⟨h1, h⟩
        simp [h2]
      · simp [h1]
theorem srcL_no {l : List M} {x : Int} (h : ∀ m ∈ l, m.1 ≠ x) : srcL l x = none := by
  unfold srcL
  rw [Option.map_eq_none_iff, List.find?_eq_none]
  intro m hm
  simp [h m hm]
/-- Each place gets at most one thing. -/
def Dist (l : List M) : Prop := (l.map (·.1)).Nodup

theorem srcL_next {l : List M} {j : Nat} (hj : j < l.length) (hnew : ∀ m ∈ l.take j, m.1 ≠ l[j].1) (x : Int) :
    srcL (l.take (j + 1)) x = (if l[j].1 = l[j].2 then srcL (l.take j) else upd (srcL (l.take j)) l[j].1 (some l[j].2)) x := by
  rw [List.take_succ_eq_append_getElem hj, srcL_snoc]
  by_cases he : l[j].1 = l[j].2
  · rw [if_pos he, if_neg (by rintro ⟨h1, h2⟩; exact h2 (he ▸ h1))]
    simp
  · rw [if_neg he]
    by_cases hx : x = l[j].1
    · subst hx
      rw [upd_same, srcL_no hnew, if_pos ⟨rfl, fun h => he h.symm⟩]; rfl
    · rw [upd_other _ _ hx, if_neg (by rintro ⟨h1, _⟩; exact hx h1.symm)]
      simp
def anyTo (l : List M) (x : Int) : Bool := l.any (·.1 == x)
theorem anyTo_next {l : List M} {j : Nat} (hj : j < l.length) (x : Int) : upd (anyTo (l.take j)) l[j].1 true x = anyTo (l.take (j + 1)) x := by
  rw [List.take_succ_eq_append_getElem hj]
  unfold anyTo
  rw [List.any_append]
  by_cases h : x = l[j].1
  · subst h; rw [upd_same]; simp
  · rw [upd_other _ _ h]; simp [Ne.symm h]
theorem dist_next {l : List M} {j : Nat} (hj : j < l.length) (h : Dist (l.take j)) (hnew : anyTo (l.take j) l[j].1 = false) : Dist (l.take (j + 1)) := by
  unfold Dist at *
  rw [List.take_succ_eq_append_getElem hj, List.map_append, List.nodup_append]
  refine ⟨h, by simp, ?_⟩
  intro x hx y hy
  simp only [List.map_cons, List.map_nil, List.mem_singleton] at hy
  subst hy
  intro e
  subst e
  simp only [List.mem_map] at hx
  obtain ⟨m, hm, he⟩ := hx
  unfold anyTo at hnew
  rw [List.any_eq_false] at hnew
  exact hnew m hm (by simp [he])
theorem dist_no {l : List M} {j : Nat} (hj : j < l.length) (hold : anyTo (l.take j) l[j].1 = true) : ¬ Dist l := by
  intro h
  unfold anyTo at hold
  rw [List.any_eq_true] at hold
  obtain ⟨m, hm, he⟩ := hold
  have he : m.1 = l[j].1 := by simpa using he
  obtain ⟨k, hk, rfl⟩ := List.getElem_of_mem hm
  have hkj : k < j := by simp at hk; omega
  rw [List.getElem_take] at he
  unfold Dist at h
  have := (List.pairwise_iff_getElem.1 h) k j (by simp; omega) (by simpa using hj) hkj
  simp at this
  exact this he
theorem new_of_anyTo {l : List M} {x : Int} (h : anyTo l x = false) : ∀ m ∈ l, m.1 ≠ x := by
  intro m hm e
  unfold anyTo at h
  rw [List.any_eq_false] at h
  exact h m hm (by simp [e])

theorem cell_grown {w w' : World} {a : Addr} {u : Value} {row : Option Nat} (hg : w.grownBy w' row) (hc : w.cell? a = some u) (hne : some a.block ≠ row) : w'.cell? a = some u := hg.cell hc hne

theorem SetAt.congr {w : World} {b n : Nat} {s t : Int → Bool} (h : SetAt w b n s) (e : ∀ x, s x = t x) : SetAt w b n t := by
  have : s = t := funext e
  rw [← this]; exact h

structure SrcLoop (l : List M) (w wr : World) (j : Nat) : Prop where
  dist : Dist (l.take j)
  map : MapAt wr w.heap.size j (srcL (l.take j))
  set : SetAt wr (w.heap.size + 1) j (anyTo (l.take j))
  bel : Below w.heap.size w wr

set_option maxHeartbeats 4000000 in
theorem sources_any (v : Value) (l : List M) (w : World) (hv : RdM w v l) (hR : ∀ m ∈ l, inR m.1 ∧ inR m.2) :
    Calls Try.prog 15 #[v] w fun e w' => ((Dist l ∧ ∃ b, e = .returned (.tuple #[.map (some b), .bool true]) ∧ MapAt w' b l.length (srcL l) ∧ w.heap.size ≤ b) ∨ (¬ Dist l ∧ e = .returned (.tuple #[.map none, .bool false]))) ∧ Below w.heap.size w w' := by
  have hmm := @run_makeMap Try.prog
  rcases hv.split with ⟨a, c, rfl, rfl⟩ | ⟨b, off, c, rfl, hp, hlc, hc9, hb, hcell⟩
  · go_enter Try.func15, Try.ntmps15
    go_wp2_with fail
    refine wp_loop_rounds 1 ?_
    rw [rounds_succ]
    go_wp2_with fail
    go_ret2
    exact ⟨.inl ⟨List.nodup_nil, _, rfl, ((MapAt.made w).alloc _).congr (fun x _ => rfl), Nat.le_refl _⟩, ((Below.refl _ _).alloc (Nat.le_refl _) _).alloc (by simp) _⟩
  · have HC := Lib.hid hcell
    have HR := Lib.hid hR
    have hl9 : l.length ≤ 9223372036854775807 := by omega
    clear hcell hv hR
    go_enter Try.func15, Try.ntmps15
    go_wp2_with fail
    go_loopw [14] (fun i wr => ∃ j : Nat, j ≤ l.length ∧ i = .int .i64 j ∧ Hid (SrcLoop l w wr j)) (fun i _ => l.length - (intOf i).toNat)
    case atStart =>
      refine ⟨0, by omega, rfl, List.nodup_nil, ((MapAt.made w).alloc _).congr (fun x _ => rfl), ?_, ((Below.refl _ _).alloc (Nat.le_refl _) _).alloc (by simp) _⟩
      have h := SetAt.made (w.alloc (.map #[] 0))
      rw [World.size_alloc] at h
      exact h
    case round =>
      obtain ⟨j, hj, rfl, HL⟩ := hrel
      have hbel := HL.out.bel
      have hbr : b < wr.heap.size := Nat.lt_of_lt_of_le hb hbel.size
      have hz := HL.out.set.lt
      by_cases hlt : j < l.length
      · obtain ⟨d1, d2⟩ := HC.out j hlt
        rw [← hbel.cell (p := ⟨b, off + j * 2, none⟩) hb] at d1
        rw [← hbel.cell (p := ⟨b, off + j * 2 + 1, none⟩) hb] at d2
        obtain ⟨r1, r2⟩ := HR.out l[j] (List.getElem_mem hlt)
        have HN := Lib.hid (fun h => srcL_next hlt h)
        have HA := Lib.hid (anyTo_next hlt)
        have HD := Lib.hid (fun h => dist_next hlt HL.out.dist h)
        have HNo := Lib.hid (fun h => dist_no (l := l) hlt h)
        obtain ⟨⟨x, y⟩, hx⟩ : ∃ x, l[j] = x := ⟨_, rfl⟩
        rw [hx] at d1 d2 r1 r2 HN HA HD HNo
        simp only at d1 d2 r1 r2 HN HA HD HNo
        have R1 := Lib.hid r1
        have R2 := Lib.hid r2
        clear hx hbel r1 r2
        cases hs : anyTo (l.take j) x
        · have HS := Lib.hid hs
          have HW := Lib.hid (new_of_anyTo hs)
          have hj63 : j < maxLen := by unfold maxLen; omega
          clear hs
          by_cases hxy : x = y
          · have hxy' : (x != y) = false := by simp [hxy]
            have HXY := Lib.hid hxy
            clear hxy
            go_wp2_with (first
              | (at_lookup; refine wp_seen _ rfl _ _ rfl (w.heap.size + 1) j _ rfl (HL.out.set.alloc _) x rfl R1.out false HS.out ?_)
              | (at_mapUpdate; refine wp_add _ rfl _ _ _ rfl (w.heap.size + 1) j _ rfl ((HL.out.set.alloc _).alloc _) hj63 x rfl rfl R1.out ?_; intro w3 hs3 hg3; have g1 := cell_grown hg3 (a := ⟨wr.heap.size, 0, none⟩) (u := .int .i64 x) (by simp [go_sem]) (by simp; omega); have g2 := cell_grown hg3 (a := ⟨wr.heap.size, 1, none⟩) (u := .int .i64 y) (by simp [go_sem]) (by simp; omega)))
            have hz3 := hg3.size
            exact ⟨⟨j + 1, by omega, by go_num, HD.out HS.out, ((((HL.out.map.alloc _).alloc _).kept hg3 (by simp)).mono (by omega)).congr (fun z _ => by rw [HN.out HW.out z, if_pos HXY.out]), hs3.congr HA.out,
              ((HL.out.bel.alloc HL.out.bel.size _).alloc (by have := HL.out.bel.size; simp; omega) _).grown hg3 (by have := HL.out.bel.size; simp; omega) (fun k hk => by cases hk; omega)⟩, by simp [intOf]; omega⟩
          · have hxy' : (x != y) = true := by simp [hxy]
            have HXY := Lib.hid hxy
            clear hxy
            go_wp2_with (first
              | (at_lookup; refine wp_seen _ rfl _ _ rfl (w.heap.size + 1) j _ rfl (HL.out.set.alloc _) x rfl R1.out false HS.out ?_)
              | (at_mapUpdate; refine wp_add _ rfl _ _ _ rfl (w.heap.size + 1) j _ rfl ((HL.out.set.alloc _).alloc _) hj63 x rfl rfl R1.out ?_; intro w3 hs3 hg3; have g1 := cell_grown hg3 (a := ⟨wr.heap.size, 0, none⟩) (u := .int .i64 x) (by simp [go_sem]) (by simp; omega); have g2 := cell_grown hg3 (a := ⟨wr.heap.size, 1, none⟩) (u := .int .i64 y) (by simp [go_sem]) (by simp; omega))
              | (at_mapUpdate; refine wp_store _ rfl _ _ _ rfl w.heap.size j _ rfl (((HL.out.map.alloc _).alloc _).kept hg3 (by simp)) hj63 x y rfl rfl R1.out R2.out ?_; intro w4 hm4 hg4))
            have hz3 := hg3.size
            have hz4 := hg4.size
            have hb3 : Below w.heap.size w w3 := ((HL.out.bel.alloc HL.out.bel.size _).alloc (by have := HL.out.bel.size; simp; omega) _).grown hg3 (by have := HL.out.bel.size; simp; omega) (fun k hk => by cases hk; omega)
            exact ⟨⟨j + 1, by omega, by go_num, HD.out HS.out, hm4.congr (fun z _ => by rw [HN.out HW.out z, if_neg HXY.out]), (hs3.congr HA.out).kept hg4 (by simp),
              hb3.grown hg4 hb3.size (fun k hk => by cases hk; omega)⟩, by simp [intOf]; omega⟩
        · have HS := Lib.hid hs
          have HND := Lib.hid (HNo.out hs)
          clear hs
          go_wp2_with (first
              | (at_lookup; refine wp_seen _ rfl _ _ rfl (w.heap.size + 1) j _ rfl (HL.out.set.alloc _) x rfl R1.out true HS.out ?_))
          go_ret2
          exact ⟨.inr ⟨HND.out, rfl⟩, (HL.out.bel.alloc HL.out.bel.size _).alloc (by have := HL.out.bel.size; simp; omega) _⟩
      · obtain rfl : j = l.length := by omega
        have hd := HL.out.dist
        have hm := HL.out.map
        rw [List.take_length] at hd hm
        have HD := Lib.hid hd
        have HM := Lib.hid hm
        clear hd hm hbel
        go_wp2_with fail
        go_ret2
        exact ⟨.inl ⟨HD.out, _, rfl, HM.out, Nat.le_refl _⟩, HL.out.bel⟩
end Go.Proofs.Ytmdmfciicoldoaa
