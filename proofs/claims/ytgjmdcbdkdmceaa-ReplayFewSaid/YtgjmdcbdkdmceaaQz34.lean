/- The law's own image, that marks ten times. -/
import Derived.Test.YtgjmdcbdkdmceaaQz32
import Derived.Deep.DeepCutAuto
import Derived.Deep.RegionWith
import Derived.Test.YtgjmdcbdkdmceaaQz33
namespace Go.Proofs.Ytgjmdcbdkdmceaa.Mach
open Go.RowKit

def ws0 : List W := [⟨30, 0, 0, 0, 10⟩, ⟨30, 1, 0, 0, 1⟩, ⟨44, 0, 0, 0, 0⟩, ⟨2, 0, 0, 1, 0⟩, ⟨46, 0, 0, 0, 6⟩, ⟨45, 0, 0, 0, 2⟩, ⟨47, 0, 0, 0, 0⟩]
def E0 : Env := ⟨ws0, [(0, 0)], []⟩
def X0 : PX := ⟨E0, 0, 1000, 3, 9, []⟩
def d00 : PS := ⟨newF E0 0, [], 0, 0⟩
set_option maxHeartbeats 1000000 in
theorem loop_any (w : World) : Calls Try.prog 29 #[] w fun e w' => ∃ wv ev, e = .returned (.agg #[wv, ev, .int .i64 0, .slice none 0 0]) ∧ Rd w' 5 wv E0.ws.length (cW E0.ws) ∧ Rd w' 2 ev E0.es.length (entC E0.es) ∧ Below w.heap.size w w' := by
  go_enter Try.func29, Try.ntmps29
  go_wp2_with fail
  obtain ⟨w1, hw1⟩ : ∃ w1, w1 = w.alloc (.cells #[.slice (some ⟨w.heap.size + 1, 0, none⟩) 7 7, .slice (some ⟨w.heap.size + 1 + 1, 0, none⟩) 1 1, .int .i64 0, .slice none 0 0] 26) := ⟨_, rfl⟩
  rw [← hw1]
  have z1 : w1.heap.size = w.heap.size + 1 := by rw [hw1]; simp
  have b1 : Below w.heap.size w w1 := by rw [hw1]; exact (Below.refl _ _).alloc (Nat.le_refl _) _
  obtain ⟨w2, hw2⟩ : ∃ w2, w2 = w1.alloc (.cells (cW E0.ws).toArray 73) := ⟨_, rfl⟩
  have z2 : w2.heap.size = w1.heap.size + 1 := by rw [hw2]; simp
  have b2 : Below w.heap.size w w2 := by rw [hw2]; exact b1.alloc (by omega) _
  have r2 : w2.ownsRow 0 73 5 (.slice (some ⟨w1.heap.size, 0, none⟩) 7 7) 7 (cW E0.ws).toArray.toList := by
    rw [hw2]
    exact World.ownsRow_lit (base := 0) (e := 73) (size := 5) w1 _ 7 (Nat.zero_le _) (by unfold maxLen; omega) (by decide)
  have r3 : (w2.alloc (.cells (entC E0.es).toArray 62)).ownsRow 0 62 2 (.slice (some ⟨w2.heap.size, 0, none⟩) 1 1) 1 (entC E0.es).toArray.toList :=
    World.ownsRow_lit (base := 0) (e := 62) (size := 2) w2 _ 1 (Nat.zero_le _) (by unfold maxLen; omega) (by decide)
  have hx1 : w1.heap[w.heap.size]? = some (.cells #[.slice (some ⟨w.heap.size + 1, 0, none⟩) 7 7, .slice (some ⟨w.heap.size + 1 + 1, 0, none⟩) 1 1, .int .i64 0, .slice none 0 0] 26 (0, 0)) := by rw [hw1]; exact heap_alloc_new _ _
  have b13 : Below w1.heap.size w1 (w2.alloc (.cells (entC E0.es).toArray 62)) := by rw [hw2]; exact ((Below.refl _ _).alloc (Nat.le_refl _) _).alloc (by simp) _
  have hx3 := (b13.block w.heap.size (by omega)).trans hx1
  have r2' := Rd.of_own (obelow r2 ((Below.refl w2.heap.size w2).alloc (Nat.le_refl _) (.cells (entC E0.es).toArray 62)))
  have r3' := Rd.of_own r3
  have b3 := b2.alloc b2.size (.cells (entC E0.es).toArray 62)
  have e3 : w2.alloc (.cells (entC E0.es).toArray 62) = (w1.alloc (.cells #[.int .u8 30, .int .u8 0, .int .u8 0, .int .u8 0, .int .i64 10, .int .u8 30, .int .u8 1, .int .u8 0, .int .u8 0, .int .i64 1, .int .u8 44, .int .u8 0, .int .u8 0, .int .u8 0, .int .i64 0, .int .u8 2, .int .u8 0, .int .u8 0, .int .u8 1, .int .i64 0, .int .u8 46, .int .u8 0, .int .u8 0, .int .u8 0, .int .i64 6, .int .u8 45, .int .u8 0, .int .u8 0, .int .u8 0, .int .i64 2, .int .u8 47, .int .u8 0, .int .u8 0, .int .u8 0, .int .i64 0] 73)).alloc (.cells #[.int .i64 0, .int .i64 0] 62) := by rw [hw2]; rfl
  rw [← e3]
  obtain ⟨W, hW⟩ : ∃ W, W = w2.alloc (.cells (entC E0.es).toArray 62) := ⟨_, rfl⟩
  rw [← hW] at hx3 r2' r3' b3 ⊢
  have q0 : W.cell? ⟨w.heap.size, 0, none⟩ = some (.slice (some ⟨w.heap.size + 1, 0, none⟩) 7 7) := by simp [World.cell?, hx3]
  have q1 : W.cell? ⟨w.heap.size, 1, none⟩ = some (.slice (some ⟨w.heap.size + 1 + 1, 0, none⟩) 1 1) := by simp [World.cell?, hx3]
  have q2 : W.cell? ⟨w.heap.size, 2, none⟩ = some (.int .i64 0) := by simp [World.cell?, hx3]
  have q3 : W.cell? ⟨w.heap.size, 3, none⟩ = some (.slice none 0 0) := by simp [World.cell?, hx3]
  refine bodyPost_ret (v := .agg #[.slice (some ⟨w.heap.size + 1, 0, none⟩) 7 7, .slice (some ⟨w.heap.size + 1 + 1, 0, none⟩) 1 1, .int .i64 0, .slice none 0 0]) ?_ rfl ⟨_, _, rfl, ?_, ?_, b3⟩
  · simp [results, Try.results29, go_sem, q0, q1, q2, q3]
  · rw [z1] at r2'
    exact r2'
  · rw [z2, z1] at r3'
    exact r3'
end Go.Proofs.Ytgjmdcbdkdmceaa.Mach

/- The law's own example: a run that marks ten times, gone to and fro. -/
namespace Go.Proofs.Ytgjmdcbdkdmceaa.Mach
open Go.RowKit

def d01 : PS := (goP X0 10 d00).2
def d02 : PS := (goP X0 7 d01).2
def d03 : PS := (goP X0 20 d02).2
theorem x0_a : (goP X0 10 d00).1 = true ∧ d01.S.map (·.1) = [3, 6, 9] ∧ (0 ≤ d01.work ∧ d01.work ≤ 1000) := by decide +kernel
theorem x0_b : (goP X0 7 d01).1 = true ∧ d02.work = d01.work + 4 ∧ d02.s.marks = 7 ∧ (0 ≤ d02.work ∧ d02.work ≤ 1000) := by decide +kernel
theorem x0_c : (goP X0 20 d02).1 = false ∧ overF 1000 d03.s = true := by decide +kernel
theorem x0_ok : X0.Ok := by
  refine ⟨⟨?_, ?_, (fun x hx => by cases hx), by decide, by decide, by decide⟩, by decide, by decide, by decide, by decide, ?_, by decide, (fun x hx => by cases hx), by decide⟩
  · intro x hx
    simp only [X0, E0, ws0, List.mem_cons, List.not_mem_nil, or_false] at hx
    rcases hx with rfl | rfl | rfl | rfl | rfl | rfl | rfl <;> (unfold W.ok; decide)
  · intro x hx
    simp only [X0, E0, List.mem_cons, List.not_mem_nil, or_false] at hx
    subst hx
    unfold i64; decide
  · intro x hx
    simp only [X0, E0, List.mem_cons, List.not_mem_nil, or_false] at hx
    subst hx
    decide
theorem pok_new {X : PX} (H : X.Ok) : POk X ⟨newF X.E X.m, [], 0, 0⟩ := by
  refine ⟨⟨(fun i j hi => by simp at hi), by have := H.mo; show (0 : Int) ≤ _; omega, (fun x hx => by cases hx), ?_⟩, 0, rfl⟩
  rcases Nat.eq_zero_or_pos X.cs.length with e | e
  · exact .inl e
  · exact .inr e
theorem PPost.lo {w w' : World} {u : Nat → Prop} {base P b : Nat} {X : PX} {d d' : PS} (h : PAt w u base P X d) (hp : PPost w u base P X d' w') (hb : b ≤ base) : ∃ u', PAt w' u' base P X d' ∧ Below b w w' := by
  obtain ⟨u', h1, h2⟩ := hp
  exact ⟨u', h1, h2.lo (fun k hk => h.lo.1 k (by omega)) (Nat.le_trans hb h.lo.2)⟩
theorem pok0 : POk X0 d00 := pok_new x0_ok
theorem pok1 : POk X0 d01 := (pok0.go x0_ok 10).1
theorem pok2 : POk X0 d02 := (pok1.go x0_ok 7).1
theorem new0_any (w : World) (wv ev : Value) (hW : Rd w 5 wv E0.ws.length (cW E0.ws)) (hE : Rd w 2 ev E0.es.length (entC E0.es)) :
    Calls Try.prog 10 #[.agg #[wv, ev, .int .i64 0, .slice none 0 0], .slice none 0 0, .int .i64 3, .int .i64 9, .int .i64 1000, .slice none 0 0] w fun e w' => ∃ P u, e = .returned (.tuple #[.pointer (some ⟨P, 0, none⟩), .int .i64 0]) ∧ PAt w' u w.heap.size P X0 d00 ∧ Below w.heap.size w w' :=
  pnew_any wv ev (.slice none 0 0) (.slice none 0 0) (.slice none 0 0) X0 0 0 [] w hW hE (Rd.nil _ _) (fun x hx => by cases hx) (Rd.nil _ _) (Rd.nil _ _) rfl x0_ok (by decide) (by decide) (by decide)
set_option maxRecDepth 100000 in
set_option maxHeartbeats 4000000 in
theorem awake26_any (w : World) : Calls Try.prog 7 #[] w fun e w' => e = .returned (.bool true) ∧ Below w.heap.size w w' := by
  go_enter Try.func7, Try.ntmps7
  go_wp2_with fail
  refine (loop_any w).mono ?_
  rintro e w1 ⟨wv, ev, rfl, hW, hE, hb1⟩
  obtain ⟨wa, wc, rfl⟩ := Rd.shape hW
  obtain ⟨ea, ec, rfl⟩ := Rd.shape hE
  have HN := Lib.hid (new0_any w1 _ _ hW hE)
  have HB1 := Lib.hid hb1
  clear hW hE hb1
  go_wp2_with fail
  refine HN.out.mono ?_
  rintro e w2 ⟨P, u, rfl, hP, hb2⟩
  have HP2 := Lib.hid (And.intro hP (HB1.out.trans (hb2.mono HB1.out.size)))
  have HZ := Lib.hid HB1.out.size
  clear hP hb2 HN HB1
  go_wp2_with fail
  refine (go_any w2 u _ P X0 d00 10 HP2.out.1 x0_ok pok0 (by decide)).mono ?_
  rintro e w3 ⟨rfl, hp⟩
  obtain ⟨u3, hP3, hb3⟩ := PPost.lo HP2.out.1 hp HZ.out
  have HP3 : Hid (PAt w3 u3 w1.heap.size P X0 d01 ∧ Below w.heap.size w w3) := ⟨hP3, HP2.out.2.trans hb3⟩
  clear hp hP3 hb3 HP2
  rw [show (goP X0 (10 : Int).toNat d00).1 = true from x0_a.1]
  go_wp2_with fail
  have hk3 := HP3.out.1.kept (by have := pok1.ks.len; have h9 : X0.most = 9 := rfl; rw [h9] at this; simp at this; omega)
  rw [x0_a.2.1] at hk3
  refine hk3.mono ?_
  rintro e w4 ⟨q4, rfl, hq4, hb4⟩
  have hB4 := HP3.out.2.trans (hb4.mono HP3.out.2.size)
  have HP4 := Lib.hid (And.intro (HP3.out.1.below hb4) hB4)
  obtain ⟨qa4, qc4, rfl⟩ := (Rd.of_own hq4).shape
  clear hk3 hq4 hb4 hB4 HP3
  go_wp2_with fail
  have hk4 := HP4.out.1.kept (by have := pok1.ks.len; have h9 : X0.most = 9 := rfl; rw [h9] at this; simp at this; omega)
  rw [x0_a.2.1] at hk4
  refine hk4.mono ?_
  rintro e w5 ⟨q5, rfl, hq5, hb5⟩
  have hB5 := HP4.out.2.trans (hb5.mono HP4.out.2.size)
  have HP5 := Lib.hid (And.intro (HP4.out.1.below hb5) hB5)
  obtain ⟨g5, qc5, rfl, hg5, hgc5, -, hc5⟩ := osplit hq5 (by decide)
  have c5 : w5.cell? ⟨g5, 2, none⟩ = some (.int .i64 9) := hc5 2 _ rfl
  clear hk4 hq5 hb5 hB5 HP4 hc5 hgc5
  go_wp2_with fail
  refine HP5.out.1.workq.mono ?_
  rintro e w6 ⟨rfl, rfl⟩
  obtain ⟨wk, hwk⟩ : ∃ wk, wk = d01.work := ⟨_, rfl⟩
  rw [← hwk]
  have HWK := Lib.hid hwk
  have hwb := x0_a.2.2
  rw [← hwk] at hwb
  clear hwk c5
  go_wp2_with fail
  refine (go_any w6 u3 _ P X0 d01 7 HP5.out.1 x0_ok pok1 (by have := x0_a.2.2; omega)).mono ?_
  rintro e w7 ⟨rfl, hp⟩
  obtain ⟨u7, hP7, hb7⟩ := PPost.lo HP5.out.1 hp HZ.out
  have HP7 : Hid (PAt w7 u7 w1.heap.size P X0 d02 ∧ Below w.heap.size w w7) := ⟨hP7, HP5.out.2.trans hb7⟩
  clear hp hP7 hb7 HP5
  rw [show (goP X0 (7 : Int).toNat d01).1 = true from x0_b.1]
  go_wp2_with fail
  refine HP7.out.1.workq.mono ?_
  rintro e w8 ⟨rfl, rfl⟩
  rw [x0_b.2.1, ← HWK.out]
  go_wp2_with fail
  refine HP7.out.1.atq.mono ?_
  rintro e w9 ⟨rfl, hb9⟩
  have hB9 := HP7.out.2.trans (hb9.mono HP7.out.2.size)
  have HP9 := Lib.hid (And.intro (HP7.out.1.below hb9) hB9)
  rw [x0_b.2.2.1]
  clear hb9 hB9 HP7
  go_wp2_with fail
  refine (go_any w9 u7 _ P X0 d02 20 HP9.out.1 x0_ok pok2 (by have := x0_b.2.2.2; omega)).mono ?_
  rintro e w10 ⟨rfl, hp⟩
  obtain ⟨u10, hP10, hb10⟩ := PPost.lo HP9.out.1 hp HZ.out
  have HP10 : Hid (PAt w10 u10 w1.heap.size P X0 d03 ∧ Below w.heap.size w w10) := ⟨hP10, HP9.out.2.trans hb10⟩
  clear hp hP10 hb10 HP9
  rw [show (goP X0 (20 : Int).toNat d02).1 = false from x0_c.1]
  go_wp2_with fail
  refine HP10.out.1.over.mono ?_
  rintro e w11 ⟨rfl, hb11⟩
  have HB11 := Lib.hid (HP10.out.2.trans (hb11.mono HP10.out.2.size))
  rw [show overF X0.F d03.s = true from x0_c.2]
  clear hb11 HP10
  go_wp2_with fail
  go_ret
  exact ⟨rfl, HB11.out⟩
end Go.Proofs.Ytgjmdcbdkdmceaa.Mach
