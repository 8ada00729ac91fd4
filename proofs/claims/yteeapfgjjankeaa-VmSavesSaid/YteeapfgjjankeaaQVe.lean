/- Vm: slices.Clone, at each type that the machine asks. -/
import Derived.Test.YteeapfgjjankeaaQVp
import Derived.Lib.SliceRun
import Derived.Deep.AppendSrc
import Derived.Laws.AppendOwnNone
namespace Go.Proofs.Yteeapfgjjankeaa
open Go.RowKit

theorem cinfoW : (Try.prog.info? 60).map (fun i => (i.zero, i.size, i.bytes)) = some (some (.agg #[.int .u8 0, .int .u8 0, .int .u8 0, .int .u8 0, .int .i64 0]), 5, 16) := by kernel_rfl
theorem emptyW (w : World) : (w.alloc (.cells #[] 60)).ownsRow w.heap.size 60 5 (.slice (some ⟨w.heap.size, 0, none⟩) 0 0) 0 [] :=
  ⟨rfl, .inr ⟨w.heap.size, 0, #[], rfl, Nat.le_refl _, heap_alloc_new _ _, Nat.le_refl _, Nat.zero_le _, rfl, rfl⟩⟩
set_option maxHeartbeats 4000000 in
theorem cloneW (v : Value) (n : Nat) (xs : List Value) (w : World) (hv : Rd w 5 v n xs) (h1 : ∀ u ∈ xs, u.oneCell' = true) (hl : n * 16 ≤ 140737488355328) :
    Calls Try.prog 24 #[v] w fun e w' => ∃ v', e = .returned v' ∧ w'.ownsRow w.heap.size 60 5 v' n xs ∧ Below w.heap.size w w' := by
  obtain ⟨im, mi0, mz0, mz1, mz2⟩ := info_partsV cinfoW
  have HV := Lib.hid hv
  have hnl := fun W a n c => Lib.run_eql_slice_nil (P := Try.prog) W 22 60 a n c 0 0 Try.underlying22
  rcases hv.2 with ⟨rfl, h0⟩ | ⟨a, c, rfl, hc1, hc2, hc3⟩
  · subst h0
    have hx : xs = [] := List.eq_nil_of_length_eq_zero (by simpa using hv.1)
    subst hx
    go_enter Try.func24, Try.ntmps24
    go_wp2_with fail
    go_ret
    exact ⟨_, rfl, ⟨rfl, .inl ⟨rfl, rfl⟩⟩, Below.refl _ _⟩
  · have b1 : 0 + n ≤ maxLen := by unfold maxLen; omega
    have b2 : (0 + n) * 16 ≤ 140737488355328 := by omega
    have HR : Hid (Rd (w.alloc (.cells #[] 60)) 5 _ n xs) := Rd.alloc HV.out _
    have H1 := Lib.hid h1
    clear hv hc1 hc2 hc3 h1
    go_enter Try.func24, Try.ntmps24
    go_wp2_with (at_builtin; refine wpList_append_own_rd _ rfl _ _ 22 rfl w.heap.size 60 im (.agg #[.int .u8 0, .int .u8 0, .int .u8 0, .int .u8 0, .int .i64 0]) 5 16 Try.underlying22 mi0 mz0 mz1 mz2 rfl (by decide) _ 0 [] rfl (emptyW w) _ n xs rfl HR.out H1.out b1 b2 (by simp) ?_; intro v' w' hown' hgrow')
    go_ret
    refine ⟨_, rfl, ?_, ((Below.refl _ _).alloc (Nat.le_refl _) _).grown hgrow' (by simp) (fun k hk => by cases hk; exact Nat.le_refl _)⟩
    have := hown'
    rw [Nat.zero_add, List.nil_append] at this
    exact this

theorem cinfoE : (Try.prog.info? 62).map (fun i => (i.zero, i.size, i.bytes)) = some (some (.agg #[.int .i64 0, .int .i64 0]), 2, 16) := by kernel_rfl
theorem emptyE (w : World) : (w.alloc (.cells #[] 62)).ownsRow w.heap.size 62 2 (.slice (some ⟨w.heap.size, 0, none⟩) 0 0) 0 [] :=
  ⟨rfl, .inr ⟨w.heap.size, 0, #[], rfl, Nat.le_refl _, heap_alloc_new _ _, Nat.le_refl _, Nat.zero_le _, rfl, rfl⟩⟩
set_option maxHeartbeats 4000000 in
theorem cloneE (v : Value) (n : Nat) (xs : List Value) (w : World) (hv : Rd w 2 v n xs) (h1 : ∀ u ∈ xs, u.oneCell' = true) (hl : n * 16 ≤ 140737488355328) :
    Calls Try.prog 25 #[v] w fun e w' => ∃ v', e = .returned v' ∧ w'.ownsRow w.heap.size 62 2 v' n xs ∧ Below w.heap.size w w' := by
  obtain ⟨im, mi0, mz0, mz1, mz2⟩ := info_partsV cinfoE
  have HV := Lib.hid hv
  have hnl := fun W a n c => Lib.run_eql_slice_nil (P := Try.prog) W 23 62 a n c 0 0 Try.underlying23
  rcases hv.2 with ⟨rfl, h0⟩ | ⟨a, c, rfl, hc1, hc2, hc3⟩
  · subst h0
    have hx : xs = [] := List.eq_nil_of_length_eq_zero (by simpa using hv.1)
    subst hx
    go_enter Try.func25, Try.ntmps25
    go_wp2_with fail
    go_ret
    exact ⟨_, rfl, ⟨rfl, .inl ⟨rfl, rfl⟩⟩, Below.refl _ _⟩
  · have b1 : 0 + n ≤ maxLen := by unfold maxLen; omega
    have b2 : (0 + n) * 16 ≤ 140737488355328 := by omega
    have HR : Hid (Rd (w.alloc (.cells #[] 62)) 2 _ n xs) := Rd.alloc HV.out _
    have H1 := Lib.hid h1
    clear hv hc1 hc2 hc3 h1
    go_enter Try.func25, Try.ntmps25
    go_wp2_with (at_builtin; refine wpList_append_own_rd _ rfl _ _ 23 rfl w.heap.size 62 im (.agg #[.int .i64 0, .int .i64 0]) 2 16 Try.underlying23 mi0 mz0 mz1 mz2 rfl (by decide) _ 0 [] rfl (emptyE w) _ n xs rfl HR.out H1.out b1 b2 (by simp) ?_; intro v' w' hown' hgrow')
    go_ret
    refine ⟨_, rfl, ?_, ((Below.refl _ _).alloc (Nat.le_refl _) _).grown hgrow' (by simp) (fun k hk => by cases hk; exact Nat.le_refl _)⟩
    have := hown'
    rw [Nat.zero_add, List.nil_append] at this
    exact this

theorem cinfoB : (Try.prog.info? 5).map (fun i => (i.zero, i.size, i.bytes)) = some (some (.int .u8 0), 1, 1) := by kernel_rfl
theorem emptyB (w : World) : (w.alloc (.cells #[] 5)).ownsRow w.heap.size 5 1 (.slice (some ⟨w.heap.size, 0, none⟩) 0 0) 0 [] :=
  ⟨rfl, .inr ⟨w.heap.size, 0, #[], rfl, Nat.le_refl _, heap_alloc_new _ _, Nat.le_refl _, Nat.zero_le _, rfl, rfl⟩⟩
set_option maxHeartbeats 4000000 in
theorem cloneB (v : Value) (n : Nat) (xs : List Value) (w : World) (hv : Rd w 1 v n xs) (h1 : ∀ u ∈ xs, u.oneCell' = true) (hl : n * 1 ≤ 140737488355328) :
    Calls Try.prog 26 #[v] w fun e w' => ∃ v', e = .returned v' ∧ w'.ownsRow w.heap.size 5 1 v' n xs ∧ Below w.heap.size w w' := by
  obtain ⟨im, mi0, mz0, mz1, mz2⟩ := info_partsV cinfoB
  have HV := Lib.hid hv
  have hnl := fun W a n c => Lib.run_eql_slice_nil (P := Try.prog) W 24 5 a n c 0 0 Try.underlying24
  rcases hv.2 with ⟨rfl, h0⟩ | ⟨a, c, rfl, hc1, hc2, hc3⟩
  · subst h0
    have hx : xs = [] := List.eq_nil_of_length_eq_zero (by simpa using hv.1)
    subst hx
    go_enter Try.func26, Try.ntmps26
    go_wp2_with fail
    go_ret
    exact ⟨_, rfl, ⟨rfl, .inl ⟨rfl, rfl⟩⟩, Below.refl _ _⟩
  · have b1 : 0 + n ≤ maxLen := by unfold maxLen; omega
    have b2 : (0 + n) * 1 ≤ 140737488355328 := by omega
    have HR : Hid (Rd (w.alloc (.cells #[] 5)) 1 _ n xs) := Rd.alloc HV.out _
    have H1 := Lib.hid h1
    clear hv hc1 hc2 hc3 h1
    go_enter Try.func26, Try.ntmps26
    go_wp2_with (at_builtin; refine wpList_append_own_rd _ rfl _ _ 24 rfl w.heap.size 5 im (.int .u8 0) 1 1 Try.underlying24 mi0 mz0 mz1 mz2 rfl (by decide) _ 0 [] rfl (emptyB w) _ n xs rfl HR.out H1.out b1 b2 (by simp) ?_; intro v' w' hown' hgrow')
    go_ret
    refine ⟨_, rfl, ?_, ((Below.refl _ _).alloc (Nat.le_refl _) _).grown hgrow' (by simp) (fun k hk => by cases hk; exact Nat.le_refl _)⟩
    have := hown'
    rw [Nat.zero_add, List.nil_append] at this
    exact this

theorem cinfoN : (Try.prog.info? 2).map (fun i => (i.zero, i.size, i.bytes)) = some (some (.int .i64 0), 1, 8) := by kernel_rfl
theorem emptyN (w : World) : (w.alloc (.cells #[] 2)).ownsRow w.heap.size 2 1 (.slice (some ⟨w.heap.size, 0, none⟩) 0 0) 0 [] :=
  ⟨rfl, .inr ⟨w.heap.size, 0, #[], rfl, Nat.le_refl _, heap_alloc_new _ _, Nat.le_refl _, Nat.zero_le _, rfl, rfl⟩⟩
set_option maxHeartbeats 4000000 in
theorem cloneN (v : Value) (n : Nat) (xs : List Value) (w : World) (hv : Rd w 1 v n xs) (h1 : ∀ u ∈ xs, u.oneCell' = true) (hl : n * 8 ≤ 140737488355328) :
    Calls Try.prog 27 #[v] w fun e w' => ∃ v', e = .returned v' ∧ w'.ownsRow w.heap.size 2 1 v' n xs ∧ Below w.heap.size w w' := by
  obtain ⟨im, mi0, mz0, mz1, mz2⟩ := info_partsV cinfoN
  have HV := Lib.hid hv
  have hnl := fun W a n c => Lib.run_eql_slice_nil (P := Try.prog) W 27 2 a n c 0 0 Try.underlying27
  rcases hv.2 with ⟨rfl, h0⟩ | ⟨a, c, rfl, hc1, hc2, hc3⟩
  · subst h0
    have hx : xs = [] := List.eq_nil_of_length_eq_zero (by simpa using hv.1)
    subst hx
    go_enter Try.func27, Try.ntmps27
    go_wp2_with fail
    go_ret
    exact ⟨_, rfl, ⟨rfl, .inl ⟨rfl, rfl⟩⟩, Below.refl _ _⟩
  · have b1 : 0 + n ≤ maxLen := by unfold maxLen; omega
    have b2 : (0 + n) * 8 ≤ 140737488355328 := by omega
    have HR : Hid (Rd (w.alloc (.cells #[] 2)) 1 _ n xs) := Rd.alloc HV.out _
    have H1 := Lib.hid h1
    clear hv hc1 hc2 hc3 h1
    go_enter Try.func27, Try.ntmps27
    go_wp2_with (at_builtin; refine wpList_append_own_rd _ rfl _ _ 27 rfl w.heap.size 2 im (.int .i64 0) 1 8 Try.underlying27 mi0 mz0 mz1 mz2 rfl (by decide) _ 0 [] rfl (emptyN w) _ n xs rfl HR.out H1.out b1 b2 (by simp) ?_; intro v' w' hown' hgrow')
    go_ret
    refine ⟨_, rfl, ?_, ((Below.refl _ _).alloc (Nat.le_refl _) _).grown hgrow' (by simp) (fun k hk => by cases hk; exact Nat.le_refl _)⟩
    have := hown'
    rw [Nat.zero_add, List.nil_append] at this
    exact this

end Go.Proofs.Yteeapfgjjankeaa
