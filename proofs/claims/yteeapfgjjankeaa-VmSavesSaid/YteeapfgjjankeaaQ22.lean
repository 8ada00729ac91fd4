/- Two of the program's machines at once; the law's copies of numbers; so many steps and so many more. -/
import Derived.Test.YteeapfgjjankeaaQHa
import Derived.Test.YteeapfgjjankeaaQVe
import Derived.Test.YteeapfgjjankeaaQIg
import Derived.Test.YteeapfgjjankeaaQ0
namespace Go.Proofs.Yteeapfgjjankeaa.Mach
open Go.RowKit

/-- What is one machine's isn't the other one's. -/
def Apart (t t' : Nat → Nat) : Prop := ∀ k, t k = 0 ∨ t' k = 0
theorem Apart.symm {t t' : Nat → Nat} (h : Apart t t') : Apart t' t := fun k => (h k).symm
theorem MRep.other {w w' : World} {tm tm' tn : Nat → Nat} {base N : Nat} {E : Env} {V : MV} {cl : List (Fr × FV)} {s : St} (h : MRep w tn base N E V cl s) (hf : Fx w w' tm tm') (hd : Apart tn tm) : MRep w' tn base N E V cl s ∧ Apart tn tm' := by
  have hs : ∀ k, tn k ≠ 0 → w'.heap[k]? = w.heap[k]? := fun k hk => hf.stay k (h.lt k hk) (by have := hd k; omega)
  have row : ∀ {T : TypeId} {v : Value} {n c : Nat} {xs : List Value}, Row w tn base T 1 v n xs c → c ≠ 0 → Row w' tn base T 1 v n xs c := fun r hc => ⟨osame r.own fun k hk => hs k (by rw [r.tag k hk]; exact hc), r.tag⟩
  refine ⟨⟨(hs N (by rw [h.tm]; omega)).trans h.hm, h.tm, ⟨⟨?_, h.env.tw, ?_, h.env.te, ?_, h.env.ti⟩, h.env.nw, h.env.ne, h.env.ni⟩, h.opn, row h.ho (by omega), row h.hh (by omega), row h.hx (by omega), fun i p hp => ?_, fun k hk => Nat.lt_of_lt_of_le (h.lt k hk) hf.size, fun k hk => ⟨(h.ge k hk).1, Nat.le_trans (h.ge k hk).2 hf.size⟩⟩, fun k => ?_⟩
  · exact Rd.keepB h.env.hw fun hn k _ hb => hs k (h.env.nw hn k hb)
  · exact Rd.keepB h.env.he fun hn k _ hb => hs k (h.env.ne hn k hb)
  · exact Rd.keepB h.env.hi fun hn k _ hb => hs k (h.env.ni hn k hb)
  · have q := h.fr i p hp
    exact ⟨(hs _ (by rw [q.tf]; omega)).trans q.fb, q.tf, q.rl, row q.sl (by omega), row q.ar (by omega), row q.rd (by omega)⟩
  · by_cases hk : tn k = 0
    · exact .inl hk
    · have h0 : tm k = 0 := by have := hd k; omega
      exact .inr (((hf.keep k (h.lt k hk)).1 (by omega)).trans h0)
/-- A machine that is made behind another one. -/
theorem Apart.made {w : World} {tm tn : Nat → Nat} (hm : ∀ k, tm k ≠ 0 → k < w.heap.size) (hn : ∀ k, k < w.heap.size → tn k = 0) : Apart tm tn := fun k => by
  by_cases hk : tm k = 0
  · exact .inl hk
  · exact .inr (hn k (hm k hk))
set_option maxHeartbeats 2000000 in
theorem ints_any (v : Value) (n : Nat) (xs : List Value) (w : World) (hv : Rd w 1 v n xs) (h1 : ∀ u ∈ xs, u.oneCell' = true) (hl : n * 8 ≤ 140737488355328) :
    Calls Try.prog 11 #[v] w fun e w' => ∃ v', e = .returned v' ∧ w'.ownsRow w.heap.size 2 1 v' n xs ∧ Below w.heap.size w w' := by
  obtain ⟨im, mi0, mz0, mz1, mz2⟩ := info_partsV cinfoN
  have b1 : 0 + n ≤ maxLen := by unfold maxLen; omega
  have b2 : (0 + n) * 8 ≤ 140737488355328 := by omega
  obtain ⟨a, c, rfl⟩ := Rd.shape hv
  have HR : Hid (Rd (w.alloc (.cells #[] 2)) 1 _ n xs) := Rd.alloc hv _
  have H1 := Lib.hid h1
  clear hv h1
  go_enter Try.func11, Try.ntmps11
  go_wp2_with (at_builtin; refine wpList_append_own_rd _ rfl _ _ 27 rfl w.heap.size 2 im (.int .i64 0) 1 8 Try.underlying27 mi0 mz0 mz1 mz2 rfl (by decide) _ 0 [] rfl (emptyN w) _ n xs rfl HR.out H1.out b1 b2 (by simp) ?_; intro v' w' hown' hgrow')
  go_ret
  refine ⟨_, rfl, ?_, ((Below.refl _ _).alloc (Nat.le_refl _) _).grown hgrow' (by simp) (fun k hk => by cases hk; exact Nat.le_refl _)⟩
  have := hown'
  rw [Nat.zero_add, List.nil_append] at this
  exact this
theorem runF_zero (E : Env) (s : St) : runF E 0 s = (0, s) := rfl
/-- So many steps and so many more are as many at once. -/
theorem runF_plus (E : Env) (x y : Nat) (s : St) : runF E (x + y) s = ((runF E x s).1 + (runF E y (runF E x s).2).1, (runF E y (runF E x s).2).2) := by
  induction x generalizing s with
  | zero => rw [Nat.zero_add, runF_zero]; simp
  | succ x ih =>
    have e : x + 1 + y = (x + y) + 1 := by omega
    rw [e]
    by_cases h : s.end_ = 0
    · have h1 : (s.end_ == 0) = true := by simp [h]
      have a : ∀ k, runF E (k + 1) s = ((runF E k (stepF E s).1).1 + 1, (runF E k (stepF E s).1).2) := fun k => by
        show (if _ then _ else _) = _
        rw [h1, if_pos rfl]
      rw [a, a, ih]
      simp only [Prod.mk.injEq, and_true]
      omega
    · have h1 : (s.end_ == 0) = false := by simpa using h
      have a : ∀ k, runF E k s = (0, s) := fun k => by
        cases k with
        | zero => rfl
        | succ k =>
          show (if _ then _ else _) = _
          rw [h1]; rfl
      simp only [a]
theorem runF_le (E : Env) (x : Nat) (s : St) : (runF E x s).1 ≤ x := by
  induction x generalizing s with
  | zero => rw [runF_zero]; exact Nat.le_refl _
  | succ x ih =>
    show (if _ then _ else _ : Nat × St).1 ≤ _
    split
    · exact Nat.succ_le_succ (ih _)
    · exact Nat.zero_le _
/-- A machine that hasn't ended has done all its steps. -/
theorem runF_all (E : Env) (x : Nat) (s : St) (h : (runF E x s).2.end_ = 0) : (runF E x s).1 = x := by
  induction x generalizing s with
  | zero => rfl
  | succ x ih =>
    by_cases h0 : s.end_ = 0
    · have h1 : (s.end_ == 0) = true := by simp [h0]
      have a : runF E (x + 1) s = ((runF E x (stepF E s).1).1 + 1, (runF E x (stepF E s).1).2) := by
        show (if _ then _ else _) = _
        rw [h1, if_pos rfl]
      rw [a] at h ⊢
      show _ + 1 = _
      rw [ih _ h]
    · have h1 : (s.end_ == 0) = false := by simpa using h0
      have a : runF E (x + 1) s = (0, s) := by
        show (if _ then _ else _) = _
        rw [h1]; rfl
      rw [a] at h
      exact absurd h h0
end Go.Proofs.Yteeapfgjjankeaa.Mach

/- What is saved: its bytes are bytes; the law's comparison of them. -/
namespace Go.Proofs.Yteeapfgjjankeaa.Mach
open Go.RowKit

theorem isB_app {l m : List Int} (h : isB l) (k : isB m) : isB (l ++ m) := fun x hx => (List.mem_append.1 hx).elim (h x) (k x)
theorem isB_flat {α : Type} {l : List α} {f : α → List Int} (h : ∀ a ∈ l, isB (f a)) : isB (l.flatMap f) := fun x hx => by
  obtain ⟨a, ha, hxa⟩ := List.mem_flatMap.1 hx
  exact h a ha x hxa
theorem isB_bytes (x : Int) (n : Nat) : isB (bytesL x n) := by
  intro y hy
  unfold bytesL at hy
  obtain ⟨i, -, rfl⟩ := List.mem_map.1 hy
  omega
theorem isB_list (l : List Int) : isB (listB l) := isB_app (isB_bytes _ _) (isB_flat fun a _ => isB_bytes a 8)
theorem isB_save (s : St) : isB (saveB s) := by
  unfold saveB headB
  exact isB_app (isB_app (isB_app (isB_app (isB_app (isB_app (isB_app (isB_app (isB_app (isB_bytes _ _) (isB_bytes _ _)) (isB_bytes _ _)) (isB_list _)) (isB_bytes _ _)) (isB_bytes _ _)) (isB_bytes _ _)) (isB_list _)) (isB_bytes _ _))
    (isB_flat fun f _ => isB_app (isB_app (isB_app (isB_app (isB_app (isB_app (isB_bytes _ _) (isB_bytes _ _)) (isB_bytes _ _)) (isB_flat fun a _ => isB_bytes a 8)) (isB_list _)) (isB_list _)) (isB_list _))
set_option maxHeartbeats 1000000 in
theorem msame_any (v1 v2 : Value) (l m : List Int) (w : World) (h1 : RdB w v1 l) (h2 : RdB w v2 m) (b1 : isB l) (b2 : isB m) :
    Calls Try.prog 13 #[v1, v2] w fun e w' => e = .returned (.bool (eqL l m)) ∧ w = w' := by
  have k1 := run_convert_rdB (P := Try.prog) h1 Try.underlying24 Try.underlying5 (dst := 9) Try.underlying9
  have k2 := run_convert_rdB (P := Try.prog) h2 Try.underlying24 Try.underlying5 (dst := 9) Try.underlying9
  have HE : Hid _ := eqL_str b1 b2
  clear h1 h2 b1 b2
  go_enter Try.func13, Try.ntmps13
  go_wp2_with fail
  go_ret
  exact ⟨ret_bool HE.out, rfl⟩
theorem eqL_self (l : List Int) : eqL l l = true := by simp [eqL]
end Go.Proofs.Yteeapfgjjankeaa.Mach
