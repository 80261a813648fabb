/- A heap of spots as a list: what one step up or down keeps. Lists alone, no program. -/
namespace Go.Proofs.YtejokbfejkkpmaaDoor
/-- A spot: rank, place, the two parts. -/
structure Sp where
  rank : Nat
  place : Nat
  a : List UInt8
  b : List UInt8
def Sp.nul : Sp := ⟨0, 0, [], []⟩
def lessS (x y : Sp) : Bool := if x.rank = y.rank then decide (x.place < y.place) else decide (x.rank < y.rank)
def leS (x y : Sp) : Prop := x.rank < y.rank ∨ (x.rank = y.rank ∧ x.place ≤ y.place)
theorem less_le {x y : Sp} : lessS x y = true ↔ ¬ leS y x := by
  unfold lessS leS; split <;> simp <;> omega
theorem less_not {x y : Sp} : lessS x y = false ↔ leS y x := by
  rw [← Bool.not_eq_true, less_le]; unfold leS; omega
theorem leS_total {x y : Sp} (h : ¬ leS x y) : leS y x := by unfold leS at *; omega
theorem leS_trans {x y z : Sp} (h : leS x y) (k : leS y z) : leS x z := by unfold leS at *; omega
theorem leS_refl (x : Sp) : leS x x := by unfold leS; omega
def par (j : Nat) : Nat := (j - 1) / 2
theorem par_lt {j : Nat} (h : 0 < j) : par j < j := by unfold par; omega
def swapL (xs : List Sp) (i j : Nat) : List Sp := (xs.set i (xs.getD j Sp.nul)).set j (xs.getD i Sp.nul)
theorem swapL_length (xs : List Sp) (i j : Nat) : (swapL xs i j).length = xs.length := by simp [swapL]
theorem swapL_at (xs : List Sp) (i j k : Nat) (hi : i < xs.length) (hj : j < xs.length) :
    (swapL xs i j).getD k Sp.nul = if k = j then xs.getD i Sp.nul else if k = i then xs.getD j Sp.nul else xs.getD k Sp.nul := by
  unfold swapL
  simp only [List.getD_eq_getElem?_getD, List.getElem?_set, List.length_set]
  by_cases h1 : j = k
  · subst h1; simp [hj]
  · have h1' : ¬ k = j := fun e => h1 e.symm
    by_cases h2 : i = k
    · subst h2; simp [h1, h1', hi]
    · have h2' : ¬ k = i := fun e => h2 e.symm
      simp [h1, h1', h2, h2']
theorem getD_at (xs : List Sp) (i : Nat) (h : i < xs.length) : xs.getD i Sp.nul = xs[i] := by simp [List.getD, h]
theorem swapL_perm (xs : List Sp) (i j : Nat) (hi : i < xs.length) (hj : j < xs.length) : (swapL xs i j).Perm xs := by
  unfold swapL; rw [getD_at xs i hi, getD_at xs j hj]; exact List.set_set_perm hi hj
def HeapTo (xs : List Sp) (n : Nat) : Prop := ∀ k, 0 < k → k < n → leS (xs.getD (par k) Sp.nul) (xs.getD k Sp.nul)
def UpInv (xs : List Sp) (j : Nat) : Prop :=
  (∀ k, 0 < k → k < xs.length → k ≠ j → leS (xs.getD (par k) Sp.nul) (xs.getD k Sp.nul)) ∧ (∀ k, 0 < k → k < xs.length → par k = j → 0 < j → leS (xs.getD (par j) Sp.nul) (xs.getD k Sp.nul))
theorem up_step {xs : List Sp} {j : Nat} (h : UpInv xs j) (hj : 0 < j) (hl : j < xs.length) (hn : ¬ leS (xs.getD (par j) Sp.nul) (xs.getD j Sp.nul)) : UpInv (swapL xs (par j) j) (par j) := by
  have hp := par_lt hj
  obtain ⟨h1, h2⟩ := h
  have ht := leS_total hn
  refine ⟨fun k k0 kl kj => ?_, fun k k0 kl kj i0 => ?_⟩
  · rw [swapL_length] at kl
    have kp := par_lt k0
    rw [swapL_at _ _ _ _ (by omega) hl, swapL_at _ _ _ _ (by omega) hl]
    by_cases e1 : k = j
    · subst e1
      rw [if_neg (by omega), if_pos rfl, if_pos rfl]; exact ht
    · rw [if_neg e1, if_neg kj]
      by_cases e2 : par k = j
      · rw [if_pos e2]; exact h2 k k0 kl e2 hj
      · rw [if_neg e2]
        by_cases e3 : par k = par j
        · rw [if_pos e3]; exact leS_trans ht (e3 ▸ h1 k k0 kl e1)
        · rw [if_neg e3]; exact h1 k k0 kl e1
  · rw [swapL_length] at kl
    have kp := par_lt k0
    have ip := par_lt i0
    rw [swapL_at _ _ _ _ (by omega) hl, swapL_at _ _ _ _ (by omega) hl]
    rw [if_neg (by omega), if_neg (by omega)]
    have hi := h1 (par j) i0 (by omega) (by omega)
    by_cases e1 : k = j
    · rw [if_pos e1]; exact hi
    · rw [if_neg e1, if_neg (by omega)]; exact leS_trans hi (kj ▸ h1 k k0 kl e1)
theorem up_end {xs : List Sp} {j : Nat} (h : UpInv xs j) (he : j = 0 ∨ leS (xs.getD (par j) Sp.nul) (xs.getD j Sp.nul)) : HeapTo xs xs.length := by
  intro k k0 kl
  by_cases e : k = j
  · subst e; rcases he with rfl | he
    · omega
    · exact he
  · exact h.1 k k0 kl e
theorem up_start {xs : List Sp} {x : Sp} (h : HeapTo xs xs.length) : UpInv (xs ++ [x]) xs.length := by
  refine ⟨fun k k0 kl kj => ?_, fun k k0 kl kj _ => ?_⟩
  · have kp := par_lt k0
    simp only [List.length_append, List.length_cons, List.length_nil] at kl
    have := h k k0 (by omega)
    simp only [List.getD_eq_getElem?_getD] at this ⊢
    rw [List.getElem?_append_left (by omega), List.getElem?_append_left (by omega)]; exact this
  · have kp := par_lt k0
    simp only [List.length_append, List.length_cons, List.length_nil] at kl
    omega
def DownInv (xs : List Sp) (n i : Nat) : Prop :=
  (∀ k, 0 < k → k < n → par k ≠ i → leS (xs.getD (par k) Sp.nul) (xs.getD k Sp.nul)) ∧ (∀ k, 0 < k → k < n → par k = i → 0 < i → leS (xs.getD (par i) Sp.nul) (xs.getD k Sp.nul))
theorem down_step {xs : List Sp} {n i c : Nat} (h : DownInv xs n i) (hn : n ≤ xs.length) (hc : c < n) (c0 : 0 < c) (hp : par c = i) (hm : ∀ k, 0 < k → k < n → par k = i → leS (xs.getD c Sp.nul) (xs.getD k Sp.nul))
    (hx : ¬ leS (xs.getD i Sp.nul) (xs.getD c Sp.nul)) : DownInv (swapL xs i c) n c := by
  have hi : i < c := hp ▸ par_lt c0
  obtain ⟨h1, h2⟩ := h
  have ht := leS_total hx
  refine ⟨fun k k0 kl kc => ?_, fun k k0 kl kc _ => ?_⟩
  · have kp := par_lt k0
    rw [swapL_at _ _ _ _ (by omega) (by omega), swapL_at _ _ _ _ (by omega) (by omega), if_neg kc]
    by_cases e1 : par k = i
    · rw [if_pos e1]
      by_cases e2 : k = c
      · rw [if_pos e2]; exact ht
      · rw [if_neg e2, if_neg (by omega)]; exact hm k k0 kl e1
    · rw [if_neg e1, if_neg (by rintro rfl; exact e1 hp)]
      by_cases e2 : k = i
      · rw [if_pos e2]; subst e2; exact h2 c c0 hc hp k0
      · rw [if_neg e2]; exact h1 k k0 kl e1
  · have kp := par_lt k0
    rw [swapL_at _ _ _ _ (by omega) (by omega), swapL_at _ _ _ _ (by omega) (by omega)]
    rw [hp, if_neg (by omega), if_pos rfl, if_neg (by omega), if_neg (by omega)]
    have := h1 k k0 kl (by omega)
    rw [kc] at this; exact this
theorem down_end {xs : List Sp} {n i : Nat} (h : DownInv xs n i) (he : ∀ k, 0 < k → k < n → par k = i → leS (xs.getD i Sp.nul) (xs.getD k Sp.nul)) : HeapTo xs n := by
  intro k k0 kl
  by_cases e : par k = i
  · rw [e]; exact he k k0 kl e
  · exact h.1 k k0 kl e
theorem down_start {xs : List Sp} {m : Nat} (h : HeapTo xs xs.length) (hm : xs.length = m + 1) : DownInv (swapL xs 0 m) m 0 := by
  refine ⟨fun k k0 kl kc => ?_, fun k k0 kl kc i0 => absurd i0 (by omega)⟩
  have kp := par_lt k0
  rw [swapL_at _ _ _ _ (by omega) (by omega), swapL_at _ _ _ _ (by omega) (by omega)]
  rw [if_neg (by omega), if_neg kc, if_neg (by omega), if_neg (by omega)]
  exact h k k0 (by omega)
theorem heap_min {xs : List Sp} (h : HeapTo xs xs.length) : ∀ k, k < xs.length → leS (xs.getD 0 Sp.nul) (xs.getD k Sp.nul) := by
  intro k
  induction k using Nat.strongRecOn with
  | _ k ih =>
    intro kl
    rcases Nat.eq_zero_or_pos k with rfl | k0
    · exact leS_refl _
    · have := par_lt k0
      exact leS_trans (ih _ this (by omega)) (h k k0 kl)
/-- The children of a place. -/
theorem par_of {i k : Nat} (k0 : 0 < k) (h : par k = i) : k = 2 * i + 1 ∨ k = 2 * i + 2 := by unfold par at h; omega
theorem par_left (i : Nat) : par (2 * i + 1) = i := by unfold par; omega
theorem par_right (i : Nat) : par (2 * i + 2) = i := by unfold par; omega
/-- A popped heap: the last place holds the least, the front is a heap of the others. -/
theorem pop_perm {xs ys : List Sp} {m : Nat} (hm : xs.length = m + 1) (hp : ys.Perm (swapL xs 0 m)) (hl : ys.getD m Sp.nul = (swapL xs 0 m).getD m Sp.nul) :
    ys.getD m Sp.nul = xs.getD 0 Sp.nul ∧ xs.Perm (xs.getD 0 Sp.nul :: ys.take m) := by
  have hs := swapL_perm xs 0 m (by omega) (by omega)
  have h1 : ys.getD m Sp.nul = xs.getD 0 Sp.nul := by rw [hl, swapL_at _ _ _ _ (by omega) (by omega), if_pos rfl]
  refine ⟨h1, ?_⟩
  have hlen : ys.length = m + 1 := by rw [hp.length_eq, swapL_length, hm]
  have e : ys = ys.take m ++ [xs.getD 0 Sp.nul] := by
    rw [← h1, getD_at _ _ (by omega)]
    conv => lhs; rw [← List.take_append_drop m ys]
    rw [List.drop_eq_getElem_cons (by omega), List.drop_eq_nil_of_le (by omega)]
  have : xs.Perm (ys.take m ++ [xs.getD 0 Sp.nul]) := by rw [← e]; exact (hp.trans hs).symm
  exact this.trans (List.perm_append_comm.trans (List.Perm.refl _))
theorem heap_take {xs : List Sp} {m : Nat} (h : HeapTo xs m) (hm : m ≤ xs.length) : HeapTo (xs.take m) (xs.take m).length := by
  intro k k0 kl
  have kp := par_lt k0
  rw [List.length_take] at kl
  have := h k k0 (by omega)
  simp only [List.getD_eq_getElem?_getD, List.getElem?_take] at this ⊢
  rw [if_pos (by omega), if_pos (by omega)]; exact this
end Go.Proofs.YtejokbfejkkpmaaDoor
