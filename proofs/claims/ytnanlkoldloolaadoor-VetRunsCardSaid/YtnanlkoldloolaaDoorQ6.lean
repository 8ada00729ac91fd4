/- Locs: how bytes begin. -/
import Derived.Test.YtnanlkoldloolaaDoorQ5
import Derived.Defers
import Derived.Recover
import Derived.Test.YtnanlkoldloolaaDoorQ4
import Derived.LaidEql
import Derived.Stop.Asserts
import Derived.RowKitTokens
import Derived.BigRegion
namespace Go.Proofs.YtnanlkoldloolaaDoor
open Go.RowKit

theorem infoBy : (Tryd.prog.info? 5).map (fun i => (i.zero, i.size, i.bytes)) = some (some (.int .u8 0), 1, 1) := by kernel_rfl
theorem infoBy_parts {i : Option TypeInfo} (h : i.map (fun i => (i.zero, i.size, i.bytes)) = some (some (.int .u8 0), 1, 1)) : ∃ x, i = some x ∧ x.size = 1 := by
  cases i with
  | none => simp at h
  | some x => simp at h; exact ⟨x, rfl, h.2.1⟩

def magicL : List Int := [84, 83, 76, 49]

set_option maxHeartbeats 1000000 in
theorem magic_any (w : World) : Calls Tryd.prog 41 #[] w fun e w' => e = .returned (.slice (some ⟨w.heap.size, 0, none⟩) 4 4) ∧ w' = w.alloc (.cells #[.int .u8 84, .int .u8 83, .int .u8 76, .int .u8 49] 5) := by
  go_enter Tryd.func41, Tryd.ntmps41
  go_wp2_with fail
  go_ret
  exact ⟨rfl, rfl⟩

theorem magic_rd (w w' : World) (h : Below (w.heap.size + 1) (w.alloc (.cells #[.int .u8 84, .int .u8 83, .int .u8 76, .int .u8 49] 5)) w') : RdB w' (.slice (some ⟨w.heap.size, 0, none⟩) 4 4) magicL := by
  refine Rd.mk rfl (Nat.le_refl 4) (by decide) (fun j hj => ?_)
  rw [h.cell (by simp)]
  rcases (by simp [magicL] at hj; omega : j = 0 ∨ j = 1 ∨ j = 2 ∨ j = 3) with rfl | rfl | rfl | rfl <;> simp [go_sem, magicL]

set_option maxHeartbeats 1000000 in
theorem equal_any (v1 v2 : Value) (l m : List Int) (w : World) (h1 : RdB w v1 l) (h2 : RdB w v2 m) (b1 : isB l) (b2 : isB m) :
    Calls Tryd.prog 50 #[v1, v2] w fun e w' => e = .returned (.bool (eqL l m)) ∧ w = w' := by
  have k1 := run_convert_rdB (P := Tryd.prog) h1 Tryd.underlying24 Tryd.underlying5 (dst := 9) Tryd.underlying9
  have k2 := run_convert_rdB (P := Tryd.prog) h2 Tryd.underlying24 Tryd.underlying5 (dst := 9) Tryd.underlying9
  have HE : Hid _ := eqL_str b1 b2
  clear h1 h2 b1 b2
  go_enter Tryd.func50, Tryd.ntmps50
  go_wp2
  go_ret
  exact ⟨ret_bool HE.out, rfl⟩

set_option maxHeartbeats 1000000 in
theorem hasPrefix_any (v1 v2 : Value) (l m : List Int) (w : World) (h1 : RdB w v1 l) (h2 : RdB w v2 m) (b1 : isB l) (b2 : isB m) :
    Calls Tryd.prog 40 #[v1, v2] w fun e w' => e = .returned (.bool (decide (m.length ≤ l.length) && eqL (l.take m.length) m)) ∧ w = w' := by
  obtain ⟨a1, c1, rfl⟩ := Rd.shape h1
  obtain ⟨a2, c2, rfl⟩ := Rd.shape h2
  obtain ⟨hi, e1, e2⟩ := infoBy_parts infoBy
  by_cases hle : m.length ≤ l.length
  · have hc1 : l.length ≤ c1 := by rcases h1.2 with ⟨h, _⟩ | ⟨a, cap, h, h3, _⟩ <;> simp at h <;> omega
    have s1 := fun W => run_slice_to (P := Tryd.prog) 24 5 Tryd.underlying24 e1 e2 a1 l.length c1 m.length (m.length : Int) rfl (by omega) W
    have h3 : RdB w (.slice a1 m.length c1) (l.take m.length) := by
      have := Rd.take h1 hle
      unfold RdB
      rw [List.length_take, Nat.min_eq_left hle]
      simpa [List.map_take] using this
    have HE := Lib.hid (equal_any _ _ _ _ w h3 h2 (fun x hx => b1 x (List.mem_of_mem_take hx)) b2)
    have hd : decide (m.length ≤ l.length) = true := decide_eq_true hle
    clear h1 h2 h3 b1 b2
    go_enter Tryd.func40, Tryd.ntmps40
    go_wp2_with fail
    refine HE.out.mono ?_
    rintro e w1 ⟨rfl, rfl⟩
    go_wp2_with fail
    go_ret
    exact ⟨ret_bool (by go_light; simp [hd]), rfl⟩
  · have hd : decide (m.length ≤ l.length) = false := decide_eq_false hle
    clear h1 h2 b1 b2
    go_enter Tryd.func40, Tryd.ntmps40
    go_wp2_with fail
    go_ret
    exact ⟨ret_bool (by go_light; simp [hd]), rfl⟩
end Go.Proofs.YtnanlkoldloolaaDoor

/- Locs: how a turn gives up, where none did. -/
namespace Go.Proofs.YtnanlkoldloolaaDoor
open Go.RowKit

theorem recover_idle {P : Program} {Q : Exit → Act → List Frame → World → Prop} {a : Act} {cs : List Frame} {w : World} {id d ty : Nat} {pos : String} (h : recoverD cs = none) (hq : Q .normal (a.put (some d) .nilIface) cs w) :
    (Code.region id #[{ dst := some d, op := Op.call { callee := .builtin .recover, args := #[], argTypes := #[] }, type := ty, pos := pos, after := #[], guard := none }] false).wpS P Q a cs w := by
  apply wpS_region
  simp [wpOpsS, go_sem, h]
  exact hq

set_option maxHeartbeats 4000000 in
theorem caught_idle (p q : Value) (w : World) :
    CallsD Tryd.prog 39 #[p, q] .returning w fun e u' w' => e = .returned (.tuple #[]) ∧ u' = .returning ∧ w' = w := by
  refine callsD_of_wpS Tryd.func39 rfl fun c₀ cs hu => ?_
  refine wpS_seq (recover_idle (by simp [recoverD, hu]) ?_)
  obtain ⟨A, hA⟩ : ∃ A, (({ tmps := #[p, q] ++ Array.replicate (Tryd.f39.ntmps - (#[p, q] : Array Value).size) undef, defers := [] } : Act).put (some 7) .nilIface) = A := ⟨_, rfl⟩
  show Code.wpS _ _ _ (({ tmps := #[p, q] ++ Array.replicate (Tryd.f39.ntmps - (#[p, q] : Array Value).size) undef, defers := [] } : Act).put (some 7) .nilIface) _ _
  rw [hA]
  refine wpS_of_wp ?_
  have hA2 : A = { tmps := #[p, q, undef, undef, undef, undef, undef, .nilIface, undef, undef, undef, undef, undef, undef, undef, undef, undef, undef, undef, undef, undef, undef, undef], defers := [] } := by rw [← hA, Tryd.ntmps39]; simp [Act.put, Array.replicate]
  clear hA
  subst hA2
  refine wp_mono (Q := fun e a' w' => e = .normal ∧ a'.defers = [] ∧ w' = w) ?_ ?_
  · go_wp2_with fail
  · rintro e a' w' ⟨rfl, hd, rfl⟩
    exact ⟨hd, .returning, by cases c₀; simp_all, _, results_none rfl _ _ _, rfl, rfl, rfl⟩
end Go.Proofs.YtnanlkoldloolaaDoor

/- Locs: Decode at the bytes of nothing. -/
namespace Go.Proofs.YtnanlkoldloolaaDoor
open Go.RowKit

abbrev nothL : List Int := [84, 83, 76, 49, 0, 0, 0]

theorem alloc_at (W : World) (o : Obj) (n : Nat) (h : n = W.heap.size) : (W.alloc o).heap[n]? = some o := by subst h; exact Array.getElem?_push_size

set_option maxHeartbeats 4000000 in
theorem decode_empty (pa : Option Addr) (pc : Nat) (w : World) (hv : RdB w (.slice pa 7 pc) nothL) (gt : TypeId) (gv : Value) (hg : Gives w gt gv) :
   Calls Tryd.prog 27 #[.slice pa 7 pc] w fun e w' => e = .returned (.tuple #[.agg #[.slice none 0 0, .slice none 0 0, .slice none 0 0], .int .i64 0]) ∧ Below w.heap.size w w' := by
  have hne : ∀ k, w.heap.size ≤ k → (Value.slice pa 7 pc).ownBlock ≠ some k := fun k hk h => by
    rcases hv.split with ⟨a, c, _, h2⟩ | ⟨b, off, c, h1, _, _, _, hb, _⟩
    · cases h2
    · rw [h1] at h
      simp [Value.ownBlock] at h
      omega
  have HNE := Lib.hid hne
  clear hne
  have HV := Lib.hid hv
  have HG := Lib.hid hg
  clear hv hg
  go_enter_defers Tryd.func27, Tryd.ntmps27
  go_wp2_with fail
  refine (magic_any _).mono ?_
  rintro e w1 ⟨rfl, rfl⟩
  have R1 : Hid (RdB (((w.alloc (.cells #[.slice none 0 0, .slice none 0 0, .slice none 0 0] 64)).alloc (.cells #[.int .i64 0] 30)).alloc (.cells #[.int .u8 84, .int .u8 83, .int .u8 76, .int .u8 49] 5)) (.slice (some ⟨w.heap.size + 1 + 1, 0, none⟩) 4 4) magicL) := by
    have := magic_rd ((w.alloc (.cells #[.slice none 0 0, .slice none 0 0, .slice none 0 0] 64)).alloc (.cells #[.int .i64 0] 30)) _ (Below.refl _ _)
    rw [World.size_alloc, World.size_alloc] at this
    exact this
  go_wp2_with fail
  refine (hasPrefix_any _ _ nothL magicL _ (((HV.out.alloc _).alloc _).alloc _) R1.out (by intro x hx; simp at hx; omega) (by intro x hx; simp [magicL] at hx; omega)).mono ?_
  rintro e w1 ⟨rfl, rfl⟩
  rw [show (decide (magicL.length ≤ nothL.length) && eqL (nothL.take magicL.length) magicL) = true from by decide]
  go_wp2_with fail
  refine (magic_any _).mono ?_
  rintro e w1 ⟨rfl, rfl⟩
  go_wp2_with fail
  refine (all_zero (w.heap.size + 1 + 1 + 1 + 1) w.heap.size (.slice pa 7 pc) nothL 4 5 6 7 _ (((((HV.out.alloc _).alloc _).alloc _).alloc _).alloc _) (by intro x hx; simp at hx; omega) ?_ (HNE.out _ (by omega)) gt gv ?_ (by omega) ?_ ?_ ?_ (by omega) (by decide) (by decide) (by decide)).mono ?_
  · exact alloc_at _ _ _ (by simp)
  · have hlt := World.block_lt_of_cell? w _ HG.out
    unfold Gives
    rw [World.cell?_alloc_lt _ _ _ (Nat.lt_of_lt_of_le hlt (by simp only [World.size_alloc]; omega)), World.cell?_alloc_lt _ _ _ (Nat.lt_of_lt_of_le hlt (by simp only [World.size_alloc]; omega)), World.cell?_alloc_lt _ _ _ (Nat.lt_of_lt_of_le hlt (by simp only [World.size_alloc]; omega)), World.cell?_alloc_lt _ _ _ (Nat.lt_of_lt_of_le hlt (by simp)), World.cell?_alloc_lt _ _ _ hlt]
    exact HG.out
  · simp [go_sem]
  · simp [go_sem]
  · simp [go_sem]
  rintro e w2 ⟨rfl, ht⟩
  obtain ⟨-, t1, -, -, -⟩ := to_cells ht.at_
  have d0 := turn_cell ht (b := w.heap.size) (i := 0) (v := .slice none 0 0) (by simp [go_sem]) (by omega)
  have d1 := turn_cell ht (b := w.heap.size) (i := 1) (v := .slice none 0 0) (by simp [go_sem]) (by omega)
  have d2 := turn_cell ht (b := w.heap.size) (i := 2) (v := .slice none 0 0) (by simp [go_sem]) (by omega)
  have e0 := turn_cell ht (b := w.heap.size + 1) (i := 0) (v := .int .i64 0) (by simp [go_sem]) (by omega)
  have hs2 : w.heap.size + 5 ≤ w2.heap.size := by have := ht.size; simp at this; omega
  have HB2 := Lib.hid (Turn.below (w0 := w) (base := w.heap.size) ((((((Below.refl _ _).alloc (Nat.le_refl _) _).alloc (by simp) _).alloc (by simp; omega) _).alloc (by simp; omega) _).alloc (by simp; omega) _) ht (by omega) (by simp; omega))
  have z0 : w2.frozen? ⟨w.heap.size, 0, none⟩ = false := by rw [World.frozen?_of_block (ht.block w.heap.size (by simp; omega) (by omega))]; simp [go_sem]
  have z1 : w2.frozen? ⟨w.heap.size, 1, none⟩ = false := by rw [World.frozen?_of_block (ht.block w.heap.size (by simp; omega) (by omega))]; simp [go_sem]
  have z2 : w2.frozen? ⟨w.heap.size, 2, none⟩ = false := by rw [World.frozen?_of_block (ht.block w.heap.size (by simp; omega) (by omega))]; simp [go_sem]
  have z3 : w2.frozen? ⟨w.heap.size + 1, 0, none⟩ = false := by rw [World.frozen?_of_block (ht.block (w.heap.size + 1) (by simp) (by omega))]; simp [go_sem]
  have T0 : w2.cell? ⟨w.heap.size + 1 + 1 + 1 + 1, 0, none⟩ = some (.slice pa 7 pc) := (to_cells ht.at_).1
  clear ht R1
  go_wp2_with fail
  refine (form_empty w2).mono ?_
  rintro e w3 ⟨rfl, hb3⟩
  obtain ⟨hc3, hf3⟩ := bcell hb3
  have y0 : w3.cell? ⟨w.heap.size, 0, none⟩ = some (.slice none 0 0) := (hc3 _ _ (by omega)).trans d0
  have y1 : w3.cell? ⟨w.heap.size, 1, none⟩ = some (.slice none 0 0) := (hc3 _ _ (by omega)).trans d1
  have y2 : w3.cell? ⟨w.heap.size, 2, none⟩ = some (.slice none 0 0) := (hc3 _ _ (by omega)).trans d2
  have y3 : w3.cell? ⟨w.heap.size + 1, 0, none⟩ = some (.int .i64 0) := (hc3 _ _ (by omega)).trans e0
  have y4 : w3.frozen? ⟨w.heap.size, 0, none⟩ = false := (hf3 _ _ (by omega)).trans z0
  have y5 : w3.frozen? ⟨w.heap.size + 1, 0, none⟩ = false := (hf3 _ _ (by omega)).trans z3
  have y6 : w3.frozen? ⟨w.heap.size, 1, none⟩ = false := (hf3 _ _ (by omega)).trans z1
  have y7 : w3.frozen? ⟨w.heap.size, 2, none⟩ = false := (hf3 _ _ (by omega)).trans z2
  have HB3 : Hid (Below w.heap.size w w3) := HB2.out.trans (hb3.mono (by omega))
  clear hc3 hf3 hb3 d0 d1 d2 e0 z0 z1 z2 z3 t1 T0
  go_wp2_with fail
  refine leaves_cons (f := 39) (args := #[.pointer (some ⟨w.heap.size, 0, none⟩), .pointer (some ⟨w.heap.size + 1, 0, none⟩)]) (by simp) (by simp [go_sem]) ?_
  refine (caught_idle _ _ _).mono ?_
  rintro e u' w'' ⟨rfl, rfl, rfl⟩
  simp [Leaves, settle, results, Tryd.results27, go_sem, y0, y1, y2, y3]
  exact (((HB3.out.setCell (Nat.le_refl _) _).setCell (Nat.le_refl _) _).setCell (Nat.le_refl _) _).setCell (by simp) _
end Go.Proofs.YtnanlkoldloolaaDoor

/- Locs: how a turn gives up. -/
namespace Go.Proofs.YtnanlkoldloolaaDoor
open Go.RowKit Go.Extern.Stop Go.Stop Go.Extern

theorem isComp : (Tryd.prog.info? 182).map (·.comparable) = some true := by kernel_rfl
theorem isSize : (Tryd.prog.info? 206).map (·.size) = some 1 := by kernel_rfl
theorem isTypeOf (v : Value) (w : World) : (Extern.ReflectliteType.typeOf #[.iface 182 v]).run Tryd.prog w = .ok (.iface 169 (.agg #[.pointer (some ⟨1, 182, none⟩)])) w := by kernel_rfl
theorem isComparable (w : World) : (callFunc 94 #[.agg #[.pointer (some ⟨1, 182, none⟩)]]).run Tryd.prog w = .ok (.value (.bool true)) w := by kernel_rfl

set_option maxRecDepth 100000 in
theorem isMethodComparable {n : Nat} (hn : n = Tryd.prog.types.size + Made.depth) (v : Value) (w : World) : (Go.method n 169 v "Comparable").run Tryd.prog w = .ok (94, v) w := by subst hn; kernel_rfl

set_option maxRecDepth 100000 in
set_option maxHeartbeats 2000000 in
/-- errors.Is(x, x), x a pointer to an errors.errorString. -/
theorem is_same (a : Addr) (w : World) :
    Calls Tryd.prog 49 #[.iface 182 (.pointer (some a)), .iface 182 (.pointer (some a))] w fun e w' => e = .returned (.bool true) ∧ w' = w := by
  obtain ⟨i, hi, hcmp⟩ := Option.map_eq_some_iff.1 isComp
  obtain ⟨j, hj, hjs⟩ := Option.map_eq_some_iff.1 isSize
  have h8 := @run_callFunc_extern Tryd.prog 66 _ Extern.ReflectliteType.typeOf Tryd.func66 (by kernel_rfl) (by kernel_rfl) (by kernel_rfl) (by kernel_rfl)
  have tT := isTypeOf
  have cT := isComparable
  have heq := run_eql_iface_ptr_same (P := Tryd.prog) w a Tryd.underlying129 Tryd.underlying182 hi hcmp hj
  go_enter Tryd.func49, Tryd.ntmps49
  go_wp2
  rw [isMethodComparable]
  · go_wp2
    refine wp_loop_rounds 1 ?_
    rw [rounds_succ]
    go_wp2
    go_ret
    exact ⟨rfl, rfl⟩
  · kernel_rfl
end Go.Proofs.YtnanlkoldloolaaDoor

/- Locs: what is done where a turn gave up. -/
namespace Go.Proofs.YtnanlkoldloolaaDoor
open Go.RowKit

theorem recover_take {P : Program} {Q : Exit → Act → List Frame → World → Prop} {a : Act} {cs cs' : List Frame} {v : Value} {w : World} {id d ty : Nat} {pos : String} (h : recoverD cs = some (v, cs')) (hq : Q .normal (a.put (some d) v) cs' w) :
    (Code.region id #[{ dst := some d, op := Op.call { callee := .builtin .recover, args := #[], argTypes := #[] }, type := ty, pos := pos, after := #[], guard := none }] false).wpS P Q a cs w := by
  apply wpS_region
  simp [wpOpsS, go_sem, h]
  exact hq

theorem isErr (v : Value) (xT : TypeId) (w : World) : (Instr.typeAssert (.iface 182 v) xT 129 true).run Tryd.prog w = .ok (.tuple #[.iface 182 v, .bool true]) w := run_typeAssert_hasB Tryd.underlying129 (by kernel_rfl) v xT w

set_option maxRecDepth 100000 in
set_option maxHeartbeats 4000000 in
theorem caught_panic (db eb : Nat) (ga : Addr) (vs vm vt : Value) (n : Int) (w : World) (hg : Gives w 182 (.pointer (some ga))) (hd : w.heap[db]? = some (.cells #[vs, vm, vt] 64 (0, 0))) (he : w.heap[eb]? = some (.cells #[.int .i64 n] 30 (0, 0))) (hne : db ≠ eb) :
    CallsD Tryd.prog 39 #[.pointer (some ⟨db, 0, none⟩), .pointer (some ⟨eb, 0, none⟩)] (.panicking [{ v := .iface 182 (.pointer (some ga)), recovered := false }]) w fun e u' w' => e = .returned (.tuple #[]) ∧ u' = .panicking [{ v := .iface 182 (.pointer (some ga)), recovered := true }] ∧ Oth w w' db eb ∧ w'.heap[db]? = some (.cells #[.slice none 0 0, .slice none 0 0, .slice none 0 0] 64 (0, 0)) ∧ w'.heap[eb]? = some (.cells #[.int .i64 3] 30 (0, 0)) := by
  have kg : w.cell? ⟨0, 0, none⟩ = some (.iface 182 (.pointer (some ga))) := hg
  have d0 := cell_of hd (show (#[vs, vm, vt] : Array Value)[0]? = _ from rfl)
  have d1 := cell_of hd (show (#[vs, vm, vt] : Array Value)[1]? = _ from rfl)
  have d2 := cell_of hd (show (#[vs, vm, vt] : Array Value)[2]? = _ from rfl)
  have z0 := unfrozen_of (i := 0) hd
  have z1 := unfrozen_of (i := 1) hd
  have z2 := unfrozen_of (i := 2) hd
  have e0 := cell_of he (show (#[.int .i64 n] : Array Value)[0]? = _ from rfl)
  have ze := unfrozen_of (i := 0) he
  have HD := Lib.hid hd
  have HE := Lib.hid he
  have hIE := isErr
  have HIS := Lib.hid (fun W => is_same ga W)
  clear hd he hg
  refine callsD_of_wpS Tryd.func39 rfl fun c₀ cs hu => ?_
  refine wpS_seq (recover_take (v := .iface 182 (.pointer (some ga))) (cs' := { c₀ with mode := .panicking [{ v := .iface 182 (.pointer (some ga)), recovered := true }] } :: cs) (by simp [recoverD, hu]) ?_)
  obtain ⟨A, hA⟩ : ∃ A, (({ tmps := #[.pointer (some ⟨db, 0, none⟩), .pointer (some ⟨eb, 0, none⟩)] ++ Array.replicate (Tryd.f39.ntmps - (#[.pointer (some ⟨db, 0, none⟩), .pointer (some ⟨eb, 0, none⟩)] : Array Value).size) undef, defers := [] } : Act).put (some 7) (.iface 182 (.pointer (some ga)))) = A := ⟨_, rfl⟩
  show Code.wpS _ _ _ (({ tmps := #[.pointer (some ⟨db, 0, none⟩), .pointer (some ⟨eb, 0, none⟩)] ++ Array.replicate (Tryd.f39.ntmps - (#[.pointer (some ⟨db, 0, none⟩), .pointer (some ⟨eb, 0, none⟩)] : Array Value).size) undef, defers := [] } : Act).put (some 7) (.iface 182 (.pointer (some ga)))) _ _
  rw [hA]
  refine wpS_of_wp ?_
  have hA2 : A = { tmps := #[.pointer (some ⟨db, 0, none⟩), .pointer (some ⟨eb, 0, none⟩), undef, undef, undef, undef, undef, .iface 182 (.pointer (some ga)), undef, undef, undef, undef, undef, undef, undef, undef, undef, undef, undef, undef, undef, undef, undef], defers := [] } := by rw [← hA, Tryd.ntmps39]; simp [Act.put, Array.replicate]
  clear hA
  subst hA2
  refine wp_mono (Q := fun e a' w' => e = .normal ∧ a'.defers = [] ∧ Oth w w' db eb ∧ w'.heap[db]? = some (.cells #[.slice none 0 0, .slice none 0 0, .slice none 0 0] 64 (0, 0)) ∧ w'.heap[eb]? = some (.cells #[.int .i64 3] 30 (0, 0))) ?_ ?_
  · go_wp2_with fail
    refine (HIS.out _).mono ?_
    rintro e w1 ⟨rfl, rfl⟩
    go_wp2_with fail
    refine ⟨⟨rfl, rfl, rfl, by simp, fun j _ h1 h2 => (Below.heap_setCell _ _ _ _ h2).trans ((Below.heap_setCell _ _ _ _ h1).trans ((Below.heap_setCell _ _ _ _ h1).trans (Below.heap_setCell _ _ _ _ h1)))⟩, ?_, ?_⟩
    · refine (Below.heap_setCell _ _ _ _ hne).trans ?_
      exact heap_set (heap_set (heap_set HD.out))
    · exact heap_set ((Below.heap_setCell _ _ _ _ (Ne.symm hne)).trans ((Below.heap_setCell _ _ _ _ (Ne.symm hne)).trans ((Below.heap_setCell _ _ _ _ (Ne.symm hne)).trans HE.out)))
  · rintro e a' w' ⟨rfl, hd, h1, h2, h3⟩
    exact ⟨hd, _, rfl, _, results_none rfl _ _ _, rfl, rfl, h1, h2, h3⟩
end Go.Proofs.YtnanlkoldloolaaDoor
