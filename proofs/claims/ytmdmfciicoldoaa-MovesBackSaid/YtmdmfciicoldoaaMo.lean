/- Walk: the program's ordering of moves. -/
import Derived.Test.YtmdmfciicoldoaaMm
import Derived.Test.YtmdmfciicoldoaaMn
import Derived.Deep.AppendLies
import Derived.BigQuiet
namespace Go.Proofs.Ytmdmfciicoldoaa
open Go.RowKit Go.Maps

/-- No move names the spare place. -/
def SpOK (l : List M) (spare : Int) : Prop := ∀ m ∈ l, m.1 ≠ spare ∧ m.2 ≠ spare

structure L1 (w : World) (base pm pn bm bn : Nat) (fr nd : Int → Option Int) (nm nn : Nat) : Prop where
  cm : w.heap[pm]? = some (.cells #[.map (some bm)] 43 (0, 0))
  cn : w.heap[pn]? = some (.cells #[.map (some bn)] 43 (0, 0))
  mm : MapAt w bm nm fr
  mn : MapAt w bn nn nd
  ne : bm ≠ bn
  lm : base ≤ bm
  ln : base ≤ bn
section
variable {w w' : World} {base pf pm po pn bm bn nm nn : Nat} {vf vo : Value} {free : List Int} {fr nd : Int → Option Int} {out : List M}
theorem L1.alloc (h : L1 w base pm pn bm bn fr nd nm nn) (o : Obj) : L1 (w.alloc o) base pm pn bm bn fr nd nm nn :=
  ⟨(heap_alloc_old _ _ (Array.getElem?_eq_some_iff.1 h.cm).1).trans h.cm, (heap_alloc_old _ _ (Array.getElem?_eq_some_iff.1 h.cn).1).trans h.cn, h.mm.alloc o, h.mn.alloc o, h.ne, h.lm, h.ln⟩
theorem L1.turnN (h : L1 w base pm pn bm bn fr nd nm nn) (hg : w.grownBy w' (some bn)) {nd' : Int → Option Int} {nn' : Nat} (hm : MapAt w' bn nn' nd') : L1 w' base pm pn bm bn fr nd' nm nn' := by
  obtain ⟨es, ck, ho⟩ := h.mn.obj
  have hk : ∀ {k : Nat} {c : Array Value} {e : TypeId} {f : Nat × Nat}, w.heap[k]? = some (.cells c e f) → w'.heap[k]? = w.heap[k]? := fun {k c e f} hh =>
    hg.block k (Array.getElem?_eq_some_iff.1 hh).1 (fun e => by cases e; rw [hh] at ho; cases ho)
  exact ⟨(hk h.cm).trans h.cm, (hk h.cn).trans h.cn, h.mm.same (hg.block _ h.mm.lt (fun e => h.ne (by cases e; rfl))), hm, h.ne, h.lm, h.ln⟩
theorem L1.dm (h : L1 w base pm pn bm bn fr nd nm nn) (hb : base ≤ w.heap.size) : DM ((w.alloc (.cells #[.slice none 0 0] 24)).alloc (.cells #[.slice none 0 0] 41)) base (w.heap.size + 1) pm w.heap.size pn bm bn (.slice none 0 0) [] fr nd (.slice none 0 0) [] nm nn := by
  have h2 := (h.alloc (.cells #[.slice none 0 0] 24)).alloc (.cells #[.slice none 0 0] 41)
  refine ⟨?_, Que.nil _ _, h2.cm, ?_, ownM_nil _ _ _, h2.cn, h2.mm, h2.mn, h.ne, by omega, hb, h.lm, h.ln⟩
  · have := heap_alloc_new (w.alloc (.cells #[.slice none 0 0] 24)) (.cells #[.slice none 0 0] 41)
    rw [World.size_alloc] at this
    exact this
  · rw [heap_alloc_old _ _ (by simp), heap_alloc_new]
end

theorem wp_appM {w : World} {ops : Array Oper} {rest : List Oper} {o : Oper} {a : Act} {Q : Exit → Act → World → Prop} (hg : o.guard = none) (s xo : Operand)
    (hop : o.op = .call { callee := .builtin .append, args := #[s, xo], argTypes := #[24, 24] }) (base : Nat) (vo : Value) (out : List M) (hs : a.eval s = vo) (h : ownM w base 32 vo out) (x y : Int) (B : Nat) (hx : a.eval xo = .slice (some ⟨B, 0, none⟩) 1 1)
    (hB : w.heap[B]? = some (.cells #[.int .i64 x, .int .i64 y] 32 (0, 0))) (hlen : out.length + 1 ≤ 1000000) (hbase : base ≤ w.heap.size)
    (hK : ∀ g cap w', ownM w' base 32 (.slice (some ⟨g, 0, none⟩) (out.length + 1) cap) (out ++ [(x, y)]) → w.grownBy w' vo.ownBlock → (vo.ownBlock = some g ∨ g = w.heap.size) → wpList Try.prog ops Q rest (a.put o.dst (.slice (some ⟨g, 0, none⟩) (out.length + 1) cap)) w') : wpList Try.prog ops Q (o :: rest) a w := by
  obtain ⟨im, mi0, mz0, mz1, mz2⟩ := info_parts infoM
  refine wpList_append_lies w hg s xo 24 hop base 32 im (.agg #[.int .i64 0, .int .i64 0]) 2 16 Try.underlying24 mi0 mz0 mz1 mz2 rfl (by decide) vo out.length (cellsM out) hs h ⟨B, 0, none⟩ 1 1 (cellsM [(x, y)]) hx rfl
    (World.news_of_block (cs := #[.int .i64 x, .int .i64 y]) hB) (cellsM_one _) (by omega) (by unfold maxLen; omega) (by omega) hbase w.heap.size rfl ?_
  intro g cap w' h1 h2 h3 _
  exact hK g cap w' (ownM_grow h1 rfl) h2 h3

/-- The move at hand, in a block of its own. -/
structure MB (w : World) (vo : Value) (B : Nat) (x y : Int) : Prop where
  at_ : w.heap[B]? = some (.cells #[.int .i64 x, .int .i64 y] 32 (0, 0))
  ne : vo.ownBlock ≠ some B
theorem MB.grown {w w' : World} {vo vo' : Value} {B g : Nat} {x y : Int} {o : Obj} (h : MB w vo B x y) (hg : (w.alloc o).grownBy w' vo.ownBlock) (hat : vo.ownBlock = some g ∨ g = (w.alloc o).heap.size) (hv : vo'.ownBlock = some g) : MB w' vo' B x y := by
  have hlt := (Array.getElem?_eq_some_iff.1 h.at_).1
  refine ⟨?_, ?_⟩
  · rw [hg.block B (by simp; omega) (fun e => h.ne e.symm), heap_alloc_old _ _ hlt]; exact h.at_
  · rw [hv]
    intro e
    cases e
    rcases hat with e | e
    · exact h.ne e
    · simp at e; omega
theorem MB.setCell {w : World} {vo : Value} {B : Nat} {x y : Int} (h : MB w vo B x y) {p : Nat} {v u : Value} {t : TypeId} (hp : w.heap[p]? = some (.cells #[u] t (0, 0))) (ht : 32 ≠ t) : MB (w.setCell ⟨p, 0, none⟩ v) vo B x y :=
  ⟨(Below.heap_setCell _ _ _ _ (blk_ne h.at_ hp (cells_ne ht))).trans h.at_, h.ne⟩
theorem MB.turn {w w' : World} {vo : Value} {B b n : Nat} {x y : Int} {f : Int → Option Int} (h : MB w vo B x y) (hm : MapAt w b n f) (hg : w.grownBy w' (some b)) : MB w' vo B x y := by
  obtain ⟨es, ck, ho⟩ := hm.obj
  exact ⟨(hg.block B (Array.getElem?_eq_some_iff.1 h.at_).1 (fun e => by cases e; have := h.at_; rw [ho] at this; cases this)).trans h.at_, h.ne⟩

theorem MB.drewN {w : World} {vo : Value} {B : Nat} {x y : Int} (h : MB w vo B x y) (n : Nat) : MB (w.drewN n) vo B x y := ⟨h.at_, h.ne⟩
theorem DM.drewN {w : World} {base pf pm po pn bm bn nm nn : Nat} {vf vo : Value} {free : List Int} {fr nd : Int → Option Int} {out : List M} (h : DM w base pf pm po pn bm bn vf free fr nd vo out nm nn) (n : Nat) : DM (w.drewN n) base pf pm po pn bm bn vf free fr nd vo out nm nn :=
  h.keep rfl rfl rfl rfl rfl rfl (fun _ _ => rfl) (fun _ _ => rfl)

theorem freeS_succ {l : List M} {j : Nat} (hj : j < l.length) : freeS l (j + 1) = freeS l j ++ (if (srcL l l[j].1).isSome && (needS l l.length l[j].1).getD 0 == 0 then [l[j].1] else []) := by
  unfold freeS
  rw [List.take_succ_eq_append_getElem hj, List.filter_append, List.map_append]
  congr 1
  by_cases h : ((srcL l l[j].1).isSome && (needS l l.length l[j].1).getD 0 == 0) = true
  · rw [if_pos h, List.filter_cons]; simp only [h, if_true, List.filter_nil, List.map_cons, List.map_nil]
  · rw [if_neg h, List.filter_cons]; simp only [h, if_false, List.filter_nil, List.map_nil, Bool.false_eq_true]
theorem freeS_len (l : List M) (j : Nat) : (freeS l j).length ≤ j := by
  unfold freeS
  rw [List.length_map]
  exact Nat.le_trans (List.length_filter_le _ _) (by rw [List.length_take]; omega)
theorem need_bd {l : List M} {j : Nat} (hj : j ≤ l.length) (x : Int) : 0 ≤ (needS l j x).getD 0 ∧ (needS l j x).getD 0 ≤ l.length := by
  rw [needS_is l j hj]
  have : takes (l.take j) x ≤ (l.take j).length := List.countP_le_length
  rw [List.length_take] at this
  omega
theorem sp_next {l : List M} {j : Nat} {spare : Int} (hj : j < l.length) (h : ∀ m ∈ l.take j, m.1 ≠ spare ∧ m.2 ≠ spare) (h1 : l[j].1 ≠ spare) (h2 : l[j].2 ≠ spare) : ∀ m ∈ l.take (j + 1), m.1 ≠ spare ∧ m.2 ≠ spare := by
  intro m hm
  rw [List.take_succ_eq_append_getElem hj, List.mem_append] at hm
  rcases hm with hm | hm
  · exact h m hm
  · simp at hm; subst hm; exact ⟨h1, h2⟩

set_option maxHeartbeats 16000000 in
set_option maxRecDepth 100000 in
theorem order_any (v : Value) (l : List M) (spare : Int) (w : World) (hv : RdM w v l) (hR : ∀ m ∈ l, inR m.1 ∧ inR m.2) (hlen : l.length ≤ 1000) :
    Calls Try.prog 9 #[v, .int .i64 spare] w fun e w' => ((¬ (Dist l ∧ SpOK l spare) ∧ e = .returned (.tuple #[.slice none 0 0, .int .i64 3])) ∨ ((Dist l ∧ SpOK l spare) ∧ ∃ v', e = .returned (.tuple #[v', .int .i64 0]) ∧ RdM w' v' (orderF l spare))) ∧ Below w.heap.size w w' := by
  have hmm := @run_makeMap Try.prog
  have hmf : ∀ (fn : Fn) (first cap : Array Value) (w : World), (Instr.makeFunc fn first cap).run Try.prog w = .ok (.func fn first cap) w := fun _ _ _ _ => rfl
  obtain ⟨ii, ii0, iz0, iz1, iz2⟩ := info_parts infoI
  have HS := Lib.hid (fun w h => sources_any v l w h hR)
  have HV := Lib.hid hv
  have HR := Lib.hid hR
  have HLen := Lib.hid hlen
  obtain ⟨va, vc, rfl⟩ := Rd.shape hv
  clear hv hR hlen
  go_enter Try.func9, Try.ntmps9
  go_wp2_with fail
  refine (HS.out _ HV.out).mono ?_
  rintro e w1 ⟨⟨hD, bm, rfl, hm, hbm⟩ | ⟨hn, rfl⟩, hb1⟩
  · have HM := Lib.hid hm
    have HB1 := Lib.hid hb1
    have HD := Lib.hid hD
    have hbm1 := hm.lt
    have hz1 := hb1.size
    clear hm hb1 hD HS
    go_wp2_with fail
    go_loopw [33] (fun i wr => ∃ (j nn : Nat), j ≤ l.length ∧ i = .int .i64 j ∧ nn ≤ j ∧ Hid (∀ m ∈ l.take j, m.1 ≠ spare ∧ m.2 ≠ spare) ∧ Hid (L1 wr w.heap.size w1.heap.size (w1.heap.size + 2) bm (w1.heap.size + 1) (srcL l) (needS l j) l.length nn) ∧ Hid (Below w.heap.size w wr)) (fun i _ => l.length - (intOf i).toNat)
    case atStart =>
      refine ⟨0, 0, by omega, rfl, Nat.le_refl _, by intro m hm; simp at hm, ?_, ?_⟩
      · refine ⟨?_, ?_, ?_, ?_, by omega, hbm, by omega⟩
        · rw [heap_alloc_old _ _ (by simp; omega), heap_alloc_old _ _ (by simp), heap_alloc_new]
        · have := heap_alloc_new ((w1.alloc (.cells #[.map (some bm)] 43)).alloc (.map #[] 0)) (.cells #[.map (some (w1.heap.size + 1))] 43)
          simp only [World.size_alloc] at this
          exact this
        · exact ((HM.out.alloc _).alloc _).alloc _
        · have := (MapAt.made (w1.alloc (.cells #[.map (some bm)] 43))).alloc (.cells #[.map (some (w1.heap.size + 1))] 43)
          rw [World.size_alloc] at this
          exact this
      · exact ((HB1.out.alloc HB1.out.size _).alloc (by simp; omega) _).alloc (by simp; omega) _
    case round =>
      obtain ⟨wa, rfl⟩ : ∃ wa : World, wa = wr := ⟨_, rfl⟩
      obtain ⟨j, nn, hj, rfl, hnj, HO, HL, HB⟩ := hrel
      have hsz := HB.out.size
      have k1 := cell_of_heap (o := 0) HL.out.cn rfl
      have k2 := cell_of_heap (o := 0) HL.out.cm rfl
      have hza : w1.heap.size + 2 < wa.heap.size := (Array.getElem?_eq_some_iff.1 HL.out.cn).1
      have hza1 : w1.heap.size < wa.heap.size := by omega
      by_cases hlt : j < l.length
      · rcases HV.out.split with ⟨a, c, h0, rfl⟩ | ⟨b, off, c, h0, hp, hlc, hc9, hb, hcell⟩
        · simp at hlt
        · simp only [Value.slice.injEq] at h0
          obtain ⟨rfl, -, rfl⟩ := h0
          obtain ⟨d1, d2⟩ := hcell j hlt
          rw [← HB.out.cell (p := ⟨b, off + j * 2, none⟩) hb] at d1
          rw [← HB.out.cell (p := ⟨b, off + j * 2 + 1, none⟩) hb] at d2
          have hbr : b < wa.heap.size := Nat.lt_of_lt_of_le hb hsz
          have HSN := Lib.hid (fun h1 h2 => sp_next hlt HO.out h1 h2)
          have HNS := Lib.hid (needS_succ hlt)
          have hmem := List.getElem_mem hlt
          obtain ⟨r1, r2⟩ := HR.out _ hmem
          have hnb := need_bd (Nat.le_of_lt hlt) l[j].2
          obtain ⟨⟨x, y⟩, hx⟩ : ∃ x, l[j] = x := ⟨_, rfl⟩
          rw [hx] at d1 d2 HSN HNS hmem r1 r2 hnb
          simp only at d1 d2 HSN HNS r1 r2 hnb
          have HMem := Lib.hid hmem
          have R2 := Lib.hid r2
          obtain ⟨n, hn⟩ : ∃ n, (needS l j y).getD 0 = n := ⟨_, rfl⟩
          rw [hn] at hnb HNS
          have HNY := Lib.hid hn
          have hl1 := HLen.out
          have HW : Hid (wrap64 (n + 1) = n + 1) := IntWalk.wrap64_in _ (by omega)
          have RN : Hid (inR (n + 1)) := by show _ ∧ _; omega
          have hnn : nn < maxLen := by unfold maxLen; omega
          clear hx hmem r1 r2 hn hnb hl1 hcell
          by_cases hxs : x = spare
          · have b1 : (x == spare) = true := by simp [hxs]
            have HXS := Lib.hid hxs
            clear hxs
            go_wp2_with fail
            go_ret2
            exact ⟨.inl ⟨fun h => (h.2 _ HMem.out).1 HXS.out, rfl⟩, HB.out.alloc hsz _⟩
          · have b1 : (x == spare) = false := by simp [hxs]
            by_cases hys : y = spare
            · have b2 : (y == spare) = true := by simp [hys]
              have HXS := Lib.hid hys
              clear hxs hys
              go_wp2_with fail
              go_ret2
              exact ⟨.inl ⟨fun h => (h.2 _ HMem.out).2 HXS.out, rfl⟩, HB.out.alloc hsz _⟩
            · have b2 : (y == spare) = false := by simp [hys]
              have HSN2 := Lib.hid (HSN.out hxs hys)
              clear hxs hys
              by_cases hxy : x = y
              · have b3 : (x != y) = false := by simp [hxy]
                rw [if_pos hxy] at HNS
                clear hxy
                go_wp2_with fail
                exact ⟨⟨j + 1, nn, by omega, by go_num, by omega, HSN2, by rw [HNS.out]; exact HL.out.alloc _, HB.out.alloc hsz _⟩, by simp [intOf]; omega⟩
              · have b3 : (x != y) = true := by simp [hxy]
                rw [if_neg hxy] at HNS
                clear hxy
                go_wp2_with (first
                  | (at_lookup; refine wp_look _ rfl _ _ rfl (w1.heap.size + 1) nn _ rfl (HL.out.alloc _).mn y rfl R2.out n HNY.out ?_)
                  | (at_mapUpdate; refine wp_store _ rfl _ _ _ rfl (w1.heap.size + 1) nn _ rfl (HL.out.alloc _).mn hnn y (n + 1) rfl (congrArg (Value.int .i64) HW.out) R2.out RN.out ?_; intro w5 hm5 hg5))
                exact ⟨⟨j + 1, nn + 1, by omega, by go_num, by omega, HSN2, by rw [HNS.out]; exact (HL.out.alloc _).turnN hg5 hm5, (HB.out.alloc hsz _).grown hg5 (by simp; omega) (fun k hk => by cases hk; omega)⟩, by simp [intOf]; omega⟩
      · obtain rfl : j = l.length := by omega
        rw [List.take_length] at HO
        have HSP : Hid (SpOK l spare) := HO.out
        have HDM := Lib.hid (HL.out.dm hsz)
        have HBA : Hid (Below w.heap.size w ((wa.alloc (.cells #[.slice none 0 0] 24)).alloc (.cells #[.slice none 0 0] 41))) := (HB.out.alloc hsz _).alloc (by simp; omega) _
        clear HO HL HB k1 k2
        go_wp2_with fail
        go_loopw [60] (fun i wr => ∃ (j : Nat) (vf : Value), j ≤ l.length ∧ i = .int .i64 j ∧ Hid (DM wr w.heap.size (wa.heap.size + 1) w1.heap.size wa.heap.size (w1.heap.size + 2) bm (w1.heap.size + 1) vf (freeS l j) (srcL l) (needS l l.length) (.slice none 0 0) [] l.length nn) ∧ Hid (Below w.heap.size w wr)) (fun i _ => l.length - (intOf i).toNat)
        case atStart => exact ⟨0, _, by omega, rfl, HDM, HBA⟩
        case round =>
          obtain ⟨j, vf, hj, rfl, HL, HB⟩ := hrel
          have hsz := HB.out.size
          obtain ⟨c1, c2, c3, c4, c5, c6⟩ := HL.out.cells
          obtain ⟨z1, z2, z3, z4, -, -, -⟩ := HL.out.lt
          obtain ⟨qa, qc, rfl, -, -⟩ := HL.out.qf.shape
          by_cases hlt : j < l.length
          · rcases HV.out.split with ⟨a, c, h0, rfl⟩ | ⟨b, off, c, h0, hp, hlc, hc9, hb, hcell⟩
            · simp at hlt
            · simp only [Value.slice.injEq] at h0
              obtain ⟨rfl, -, rfl⟩ := h0
              obtain ⟨d1, d2⟩ := hcell j hlt
              rw [← HB.out.cell (p := ⟨b, off + j * 2, none⟩) hb] at d1
              rw [← HB.out.cell (p := ⟨b, off + j * 2 + 1, none⟩) hb] at d2
              have hbr : b < wr.heap.size := Nat.lt_of_lt_of_le hb hsz
              obtain ⟨r1, r2⟩ := HR.out _ (List.getElem_mem hlt)
              have HFS := Lib.hid (freeS_succ hlt)
              obtain ⟨⟨x, y⟩, hx⟩ : ∃ x, l[j] = x := ⟨_, rfl⟩
              rw [hx] at d1 d2 HFS r1
              simp only at d1 d2 HFS r1
              have lk := fun o => (HL.out.alloc o).mn.look r1
              have lko := fun o => (HL.out.alloc o).mm.look_ok r1
              obtain ⟨n, hn⟩ : ∃ n, (needS l l.length x).getD 0 = n := ⟨_, rfl⟩
              rw [hn] at lk HFS
              have hfl := freeS_len l j
              have hl1 := HLen.out
              have HZ : Hid ((freeS l j).length + 1 ≤ 1000000) := by show _ ≤ _; omega
              clear hx r1 r2 hcell hn hfl hl1
              cases hs : srcL l x with
              | none =>
                rw [hs] at lko HFS
                simp only [Option.getD_none, Option.isSome_none] at lko
                have HF2 : Hid (freeS l (j + 1) = freeS l j) := by show _ = _; rw [HFS.out]; simp
                clear hs
                go_wp2_with fail
                exact ⟨⟨j + 1, _, by omega, by go_num, by rw [HF2.out]; exact HL.out.alloc _, HB.out.alloc hsz _⟩, by simp [intOf]; omega⟩
              | some s =>
                rw [hs] at lko HFS
                simp only [Option.getD_some, Option.isSome_some] at lko
                by_cases hn0 : n = 0
                · have hnb : (n == 0) = true := by simp [hn0]
                  have HF2 : Hid (freeS l (j + 1) = freeS l j ++ [x]) := by show _ = _; rw [HFS.out, hnb]; rfl
                  clear hs hn0
                  go_wp2_with (first
                    | (at_builtin; refine wp_que rfl _ _ rfl w.heap.size _ _ rfl ((HL.out.alloc _).alloc _).qf x _ rfl (by simp [go_sem]) (by simp; omega) HZ.out ?_; intro a7 c7 w7 hq7 hg7; have hD7 := ((HL.out.alloc _).alloc _).appF hg7 hq7; have D7 := Lib.hid hD7.2; obtain ⟨s1, s2⟩ := hD7.1))
                  exact ⟨⟨j + 1, _, by omega, by go_num, by rw [HF2.out]; exact D7, (((HB.out.alloc hsz _).alloc (by simp; omega) _).grown hg7 (by simp; omega) (fun k hk => (HL.out.qf.lt k hk).1)).setCell (by simp; omega) _⟩, by simp [intOf]; omega⟩
                · have hnb : (n == 0) = false := by simp [hn0]
                  have HF2 : Hid (freeS l (j + 1) = freeS l j) := by show _ = _; rw [HFS.out, hnb]; simp
                  clear hs hn0
                  go_wp2_with fail
                  exact ⟨⟨j + 1, _, by omega, by go_num, by rw [HF2.out]; exact HL.out.alloc _, HB.out.alloc hsz _⟩, by simp [intOf]; omega⟩
          · obtain rfl : j = l.length := by omega
            obtain ⟨⟨rf, ro⟩, hres⟩ : ∃ r, drainF (l.length + 1) (freeS l l.length) (srcL l) [] (needS l l.length) = r := ⟨_, rfl⟩
            have hl1 := HLen.out
            have hpl := pend_le l (srcL l)
            have HDC := Lib.hid (drain_any HD.out HR.out HLen.out wr _ _ _ _ _ _ _ _ _ _ _ _ _ _ _ HL.out (start_inv HD.out) (by omega) (by simp; omega) (freeS_len l _) (l.length + 1) (by omega) rf ro hres)
            have HOrd : Hid (orderF l spare = (finS l spare rf ro l.length).2) := by
              show _ = _
              unfold orderF
              rw [hres]
            clear HL hl1 hpl hres
            go_wp2_with fail
            refine (HDC.out).mono ?_
            rintro e w5 ⟨rfl, vf5, nd5, vo5, nn5, hm5, hi5, hb5, hbel5⟩
            have HP5 := Lib.hid (drained HD.out hi5)
            have HL5 := Lib.hid hm5
            have HB5 := Lib.hid (HB.out.trans hbel5)
            have hpl5 := pend_le l rf
            have HN5 : Hid (ro.length + 2 * pend l rf ≤ 200000) := by show _ ≤ _; have := HLen.out; omega
            clear hm5 hi5 hb5 hbel5 HDC HB c1 c2 c3 c4 c5 c6 z1 z2 z3 z4 hpl5
            go_wp2_with fail
            go_loopw [90] (fun i wr => ∃ (j : Nat) (vo : Value), j ≤ l.length ∧ i = .int .i64 j ∧ Hid (DM wr w.heap.size (wa.heap.size + 1) w1.heap.size wa.heap.size (w1.heap.size + 2) bm (w1.heap.size + 1) vf5 [] (finS l spare rf ro j).1 nd5 vo (finS l spare rf ro j).2 l.length nn5) ∧ Hid (PInv l (finS l spare rf ro j).1) ∧ Hid ((finS l spare rf ro j).2.length + 2 * pend l (finS l spare rf ro j).1 ≤ 200000) ∧ Hid (Below w.heap.size w wr)) (fun i _ => l.length - (intOf i).toNat)
            case atStart => exact ⟨0, _, by omega, rfl, HL5, HP5, HN5, HB5⟩
            case round =>
              obtain ⟨wb, rfl⟩ : ∃ wb : World, wb = wr := ⟨_, rfl⟩
              obtain ⟨j, vo, hj, rfl, HL, HP, HNN, HB⟩ := hrel
              have hsz := HB.out.size
              obtain ⟨c1, c2, c3, c4, c5, c6⟩ := HL.out.cells
              obtain ⟨z1, z2, z3, z4, -, -, -⟩ := HL.out.lt
              by_cases hlt : j < l.length
              · rcases HV.out.split with ⟨a, c, h0, rfl⟩ | ⟨b, off, c, h0, hp, hlc, hc9, hb, hcell⟩
                · simp at hlt
                · simp only [Value.slice.injEq] at h0
                  obtain ⟨rfl, -, rfl⟩ := h0
                  obtain ⟨d1, d2⟩ := hcell j hlt
                  rw [← HB.out.cell (p := ⟨b, off + j * 2, none⟩) hb] at d1
                  rw [← HB.out.cell (p := ⟨b, off + j * 2 + 1, none⟩) hb] at d2
                  have hbr : b < wb.heap.size := Nat.lt_of_lt_of_le hb hsz
                  obtain ⟨r1, r2⟩ := HR.out _ (List.getElem_mem hlt)
                  have HFN := Lib.hid (fun h => finS_none (spare := spare) (fr0 := rf) (out0 := ro) hlt h)
                  have HFS := Lib.hid (fun s h => finS_some (spare := spare) (fr0 := rf) (out0 := ro) (src := s) hlt h)
                  obtain ⟨⟨x, y⟩, hx⟩ : ∃ x, l[j] = x := ⟨_, rfl⟩
                  rw [hx] at d1 d2 HFN HFS r1
                  simp only at d1 d2 HFN HFS r1
                  have R1 := Lib.hid r1
                  obtain ⟨⟨f0, o0⟩, hf0⟩ : ∃ r, finS l spare rf ro j = r := ⟨_, rfl⟩
                  rw [hf0] at HL HP HNN HFN HFS
                  simp only at HL HP HNN HFN HFS
                  have lko := fun o => (HL.out.alloc o).mm.look_ok r1
                  clear hx r1 r2 hcell hf0
                  cases hs : f0 x with
                  | none =>
                    rw [hs] at lko
                    simp only [Option.getD_none, Option.isSome_none] at lko
                    have HE := Lib.hid (HFN.out hs)
                    clear hs
                    go_wp2_with fail
                    exact ⟨⟨j + 1, vo, by omega, by go_num, by rw [HE.out]; exact HL.out.alloc _, by rw [HE.out]; exact HP, by rw [HE.out]; exact HNN, HB.out.alloc hsz _⟩, by simp [intOf]; omega⟩
                  | some src =>
                    rw [hs] at lko
                    simp only [Option.getD_some, Option.isSome_some] at lko
                    have HE := Lib.hid (HFS.out src hs)
                    have HCS := Lib.hid (CI.start hs)
                    have HO0 : Hid (o0.length + 1 ≤ 1000000) := by show _ ≤ _; have := HNN.out; omega
                    have HMB : Hid (MB (wb.alloc (.cells #[.int .i64 x, .int .i64 y] 32)) vo wb.heap.size x y) := ⟨heap_alloc_new _ _, fun e => by
                      obtain ⟨_, cur, hc⟩ := own_blk HL.out.oo _ e
                      have := (Array.getElem?_eq_some_iff.1 hc).1
                      omega⟩
                    clear hs
                    go_wp2_with (first
                      | (at_builtin; refine wp_appM rfl _ _ rfl w.heap.size _ _ rfl ((HL.out.alloc _).alloc _).oo spare x (wb.heap.size + 1) rfl (by have h := heap_alloc_new (wb.alloc (.cells #[.int .i64 x, .int .i64 y] 32)) (.cells #[.int .i64 spare, .int .i64 x] 32); rw [World.size_alloc] at h; exact h) HO0.out (by simp; omega) ?_; intro g3 q3 w3 hown3 hgrow3 hat3; have hD3 := ((HL.out.alloc _).alloc _).appO hgrow3 hown3; have D3 := Lib.hid hD3.2; obtain ⟨e1, e2⟩ := hD3.1; obtain ⟨e3, e4, e5, e6⟩ := ((HL.out.alloc _).alloc _).appO_cells hgrow3; have HMB3 := Lib.hid (HMB.out.grown hgrow3 hat3 (vo' := .slice (some ⟨g3, 0, none⟩) (o0.length + 1) q3) rfl); have m1 := cell_of_heap (o := 0) HMB3.out.at_ rfl))
                    have HN3 : Hid ((o0 ++ [(spare, x)]).length + 2 * pend l f0 ≤ 200001) := by show _ ≤ _; have := HNN.out; simp; omega
                    have HB3 : Hid (Below w.heap.size w (w3.setCell ⟨wa.heap.size, 0, none⟩ (.slice (some ⟨g3, 0, none⟩) (o0.length + 1) q3))) := (((HB.out.alloc hsz _).alloc (by simp; omega) _).grown hgrow3 (by simp; omega) (fun k hk => (own_blk HL.out.oo k hk).1)).setCell (by omega) _
                    have HMB4 := Lib.hid (HMB3.out.setCell (v := .slice (some ⟨g3, 0, none⟩) (o0.length + 1) q3) (show w3.heap[wa.heap.size]? = some (.cells #[vo] 24 (0, 0)) by
                      have h := ((HL.out.alloc (.cells #[.int .i64 x, .int .i64 y] 32)).alloc (.cells #[.int .i64 spare, .int .i64 x] 32)).co
                      rw [hgrow3.block _ (by simp; omega) (fun e => by
                        obtain ⟨_, cur, hc⟩ := own_blk ((HL.out.alloc (.cells #[.int .i64 x, .int .i64 y] 32)).alloc (.cells #[.int .i64 spare, .int .i64 x] 32)).oo _ e.symm
                        rw [h] at hc; cases hc)]
                      exact h) (by decide))
                    clear hgrow3 hat3 hown3 hD3 e1 e2 e3 e4 e5 e6 m1 lko HMB HMB3 HO0 HB HL HNN c1 c2 c3 c4 c5 c6 d1 d2
                    go_loopg [22, 20] (l.length + 1) (fun k s22 s20 wr => ∃ (a s : Int) (st : Nat) (fr : Int → Option Int) (vo : Value) (out : List M), s22 = .int .i64 a ∧ s20 = .int .i64 s ∧ Hid (DM wr w.heap.size (wa.heap.size + 1) w1.heap.size wa.heap.size (w1.heap.size + 2) bm (w1.heap.size + 1) vf5 [] fr nd5 vo out l.length nn5) ∧ Hid (CI f0 x st a s fr) ∧ Hid (cycF spare x k a s fr out = finS l spare rf ro (j + 1)) ∧ Hid (pend l fr < k) ∧ Hid (out.length + 2 * pend l fr ≤ 200001) ∧ Hid (MB wr vo wb.heap.size x y) ∧ Hid (Below w.heap.size w wr))
                    case atStart => exact ⟨x, src, 0, f0, _, o0 ++ [(spare, x)], rfl, rfl, D3, HCS, HE.out.symm, Nat.lt_succ_of_le (pend_le _ _), HN3, HMB4, HB3⟩
                    case round =>
                      clear D3 HCS HN3 HMB4 HB3
                      obtain ⟨a, s, st, fr, vo, out, rfl, rfl, HL, HC, HK, HPD, HNN, HMB, HB⟩ := hrel
                      obtain ⟨k, rfl⟩ : ∃ k, gk = k + 1 := ⟨gk - 1, by have := HPD.out; omega⟩
                      obtain ⟨c1, c2, c3, c4, c5, c6⟩ := HL.out.cells
                      obtain ⟨z1, z2, z3, z4, -, -, -⟩ := HL.out.lt
                      have hsz := HB.out.size
                      have m1 := cell_of_heap (o := 0) HMB.out.at_ rfl
                      have mz := (Array.getElem?_eq_some_iff.1 HMB.out.at_).1
                      have hlive := HC.out.live HP.out
                      have hmem := (srcL_mem (HP.out.sub _ _ HC.out.next)).1
                      obtain ⟨ra, rs⟩ := HR.out _ hmem
                      simp only at ra rs
                      have RA := Lib.hid ra
                      have RS := Lib.hid rs
                      have HPN : Hid (pend l fr = pend l (upd fr a none) + 1) := pend_del HD.out ⟨(a, s), hmem, rfl⟩ fr (by rw [hlive]; simp)
                      have HO1 : Hid (out.length + 1 ≤ 1000000) := by show _ ≤ _; have := HNN.out; omega
                      have hap := HL.out.apart
                      obtain ⟨a1, a2, a3, a4, a5⟩ := hap
                      have hBp : wb.heap.size ≠ wa.heap.size := blk_ne HMB.out.at_ HL.out.co (cells_ne (by decide))
                      clear ra rs hmem hlive
                      by_cases hsx : s = x
                      · have hb1 : (s == x) = true := by simp [hsx]
                        have HE7 := Lib.hid (HK.out.symm.trans (cyc_end hsx))
                        have HPI := Lib.hid ((hsx ▸ HC.out).done HP.out)
                        clear hsx
                        go_wp2_with (first
                          | (at_builtin; refine wp_appM rfl _ _ rfl w.heap.size _ _ rfl (HL.out.alloc _).oo a spare wr.heap.size rfl (heap_alloc_new _ _) HO1.out (by simp; omega) ?_; intro g6 q6 w6 hown6 hgrow6 hat6; have hD6 := (HL.out.alloc _).appO hgrow6 hown6; have D6 := Lib.hid hD6.2; obtain ⟨e1, e2⟩ := hD6.1; obtain ⟨e3, e4, e5, e6⟩ := (HL.out.alloc _).appO_cells hgrow6)
                          | (at_delete; refine wp_delete _ rfl _ _ rfl bm l.length _ rfl D6.out.mm a rfl RA.out ?_; intro w7 hm7 hg7; have D7 := Lib.hid (D6.out.turnM hg7 hm7)))
                        have hs6 := D6.out.lt.2.2.2.2.2.2
                        exact ⟨⟨j + 1, _, by omega, by go_num, by rw [HE7.out]; exact D7, by rw [HE7.out]; exact HPI.out.1, by rw [HE7.out]; show _ ≤ _; have h1 := HNN.out; have h2 := HPN.out; simp; omega,
                          ((((HB.out.alloc hsz _).grown hgrow6 (by simp; omega) (fun k hk => (own_blk HL.out.oo k hk).1)).setCell (by omega) _).grown hg7 hs6 (fun k hk => by cases hk; exact HL.out.lm))⟩, by simp [intOf]; omega⟩
                      · obtain ⟨s', hs', hci⟩ := HC.out.step HP.out hsx
                        have hb1 : (s == x) = false := by simp [hsx]
                        have hk7 := HK.out
                        rw [cyc_go hsx, hs'] at hk7
                        have HK7 := Lib.hid hk7
                        have HCI := Lib.hid hci
                        have HS' := Lib.hid hs'
                        clear hsx hk7 hci hs'
                        go_wp2_with (first
                          | (at_builtin; refine wp_appM rfl _ _ rfl w.heap.size _ _ rfl (HL.out.alloc _).oo a s wr.heap.size rfl (heap_alloc_new _ _) HO1.out (by simp; omega) ?_; intro g6 q6 w6 hown6 hgrow6 hat6; have hD6 := (HL.out.alloc _).appO hgrow6 hown6; have D6 := Lib.hid hD6.2; obtain ⟨e1, e2⟩ := hD6.1; obtain ⟨e3, e4, e5, e6⟩ := (HL.out.alloc _).appO_cells hgrow6)
                          | (at_delete; refine wp_delete _ rfl _ _ rfl bm l.length _ rfl D6.out.mm a rfl RA.out ?_; intro w7 hm7 hg7; have D7 := Lib.hid (D6.out.turnM hg7 hm7); obtain ⟨f1, f2, f3, f4, f5, f6⟩ := D7.out.cells; have lk7 := fun n => (show MapAt (w7.drewN n) bm l.length _ from D7.out.mm).look RS.out; rw [HS'.out] at lk7; simp only [Option.getD_some] at lk7))
                        have hs6 := D6.out.lt.2.2.2.2.2.2
                        have hpo6 : w6.heap[wa.heap.size]? = some (.cells #[vo] 24 (0, 0)) := by
                          have h := (HL.out.alloc (.cells #[.int .i64 a, .int .i64 s] 32)).co
                          rw [hgrow6.block _ (by simp; omega) (fun e => by
                            obtain ⟨_, cur, hc⟩ := own_blk (HL.out.alloc (.cells #[.int .i64 a, .int .i64 s] 32)).oo _ e.symm
                            rw [h] at hc; cases hc)]
                          exact h
                        have HMB7 := Lib.hid (((HMB.out.grown hgrow6 hat6 (vo' := .slice (some ⟨g6, 0, none⟩) (out.length + 1) q6) rfl).setCell (v := .slice (some ⟨g6, 0, none⟩) (out.length + 1) q6) hpo6 (by decide)).turn D6.out.mm hg7)
                        have HB7 : Hid (Below w.heap.size w w7) := ((((HB.out.alloc hsz _).grown hgrow6 (by simp; omega) (fun k hk => (own_blk HL.out.oo k hk).1)).setCell (by omega) _).grown hg7 hs6 (fun k hk => by cases hk; exact HL.out.lm))
                        have HPD7 : Hid (pend l (upd fr a none) < k) := by show _ < _; have h1 := HPD.out; have h2 := HPN.out; omega
                        have HNN7 : Hid ((out ++ [(a, s)]).length + 2 * pend l (upd fr a none) ≤ 200001) := by show _ ≤ _; have h1 := HNN.out; have h2 := HPN.out; simp; omega
                        clear hpo6 hs6 hgrow6 hat6 hown6 hD6 hm7 hg7 HB HMB HNN HPD HPN
                        go_quiet (fail)
                        go_wp2_with fail
                        go_roundg k
                        case measure => omega
                        case rel => exact ⟨s, s', st + 1, _, _, out ++ [(a, s)], rfl, rfl, D7.out.drewN _, HCI, HK7, HPD7, HNN7, HMB7.out.drewN _, Go.below_drewN HB7.out _⟩
              · obtain rfl : j = l.length := by omega
                obtain ⟨qa, qc, rfl⟩ := ownM_shape HL.out.oo
                have HRD : Hid (RdM wb (.slice qa (finS l spare rf ro l.length).2.length qc) (orderF l spare)) := by
                  show RdM _ _ _
                  rw [HOrd.out]
                  exact HL.out.oo.rd
                have HDS : Hid (Dist l ∧ SpOK l spare) := ⟨HD.out, HSP.out⟩
                generalize hfo : (finS l spare rf ro l.length).2.length = nf at *
                clear HL HP HNN hfo
                go_wp2_with fail
                go_ret2
                exact ⟨.inr ⟨HDS.out, _, rfl, HRD.out⟩, HB.out⟩
  · have HB1 := Lib.hid hb1
    have HN := Lib.hid hn
    clear hb1 hn
    go_wp2_with fail
    go_ret2
    exact ⟨.inl ⟨fun h => HN.out h.1, rfl⟩, HB1.out.alloc HB1.out.size _⟩
end Go.Proofs.Ytmdmfciicoldoaa
