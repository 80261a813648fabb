/- What Take takes: plain, no program. -/
import Derived.Test.YtcmcdddnckcpcaaGreatDoorSf
namespace Go.Proofs.YtcmcdddnckcpcaaGreatDoor
def sumN (l : List (Nat × Nat)) : Nat := (l.map Prod.snd).sum
theorem sumN_snoc (l : List (Nat × Nat)) (x : Nat × Nat) : sumN (l ++ [x]) = sumN l + x.2 := by simp [sumN]
theorem sumN_cons (l : List (Nat × Nat)) (x : Nat × Nat) : sumN (x :: l) = x.2 + sumN l := by simp [sumN]
/-- Runs, as many as k units want; how many are lacking. -/
def trimR : List (Nat × Nat) → Nat → List (Nat × Nat) × Nat
  | [], k => ([], k)
  | x :: l, k => if k = 0 then ([], 0) else ((x.1, min x.2 k) :: (trimR l (k - min x.2 k)).1, (trimR l (k - min x.2 k)).2)
theorem trimR_zero (l : List (Nat × Nat)) : trimR l 0 = ([], 0) := by cases l <;> simp [trimR]
theorem trimR_pre (pre rest : List (Nat × Nat)) : ∀ k, sumN pre < k → trimR (pre ++ rest) k = (pre ++ (trimR rest (k - sumN pre)).1, (trimR rest (k - sumN pre)).2) := by
  induction pre with
  | nil => intro k _; simp [sumN]
  | cons x pre ih =>
    intro k hk
    rw [sumN_cons] at hk ⊢
    rw [List.cons_append, trimR, if_neg (by omega), Nat.min_eq_left (by omega), ih _ (by omega), show k - x.2 - sumN pre = k - (x.2 + sumN pre) by omega]
    rfl
theorem trimR_stop (pre rest : List (Nat × Nat)) (x : Nat × Nat) (k : Nat) (h : sumN pre < k) (h2 : k ≤ sumN pre + x.2) : trimR (pre ++ x :: rest) k = (pre ++ [(x.1, k - sumN pre)], 0) := by
  rw [trimR_pre pre _ k h, trimR, if_neg (by omega), Nat.min_eq_right (by omega), Nat.sub_self, trimR_zero]
theorem trimR_all (l : List (Nat × Nat)) (k : Nat) (h : sumN l < k) : trimR l k = (l, k - sumN l) := by
  have := trimR_pre l [] k h
  rw [List.append_nil] at this
  rw [this]
  simp [trimR]
def Rise : Nat → List (Nat × Nat) → Prop
  | _, [] => True
  | lo, x :: l => lo ≤ x.1 ∧ Rise (x.1 + x.2) l
theorem Rise.mono : ∀ {l : List (Nat × Nat)} {a b : Nat}, Rise a l → b ≤ a → Rise b l
  | [], _, _, _, _ => trivial
  | _ :: _, _, _, h, hb => ⟨Nat.le_trans hb h.1, h.2⟩
/-- What is in runs: free units, some, rising. -/
theorem runs_good (T : List Bool) : ∀ (R : List Bool) (i c : Nat), T.drop i = R → c ≤ i → (∀ j, i - c ≤ j → j < i → T.getD j true = false) →
    Rise (i - c) (runs R i c) ∧ ∀ x ∈ runs R i c, 1 ≤ x.2 ∧ i - c ≤ x.1 ∧ x.1 + x.2 ≤ T.length ∧ ∀ j, x.1 ≤ j → j < x.1 + x.2 → T.getD j true = false := by
  intro R
  have hfit : ∀ i c, (c = 0 ∨ i ≤ T.length) → c ≤ i → (∀ j, i - c ≤ j → j < i → T.getD j true = false) →
      Rise (i - c) (if c = 0 then [] else [(i - c, c)]) ∧ ∀ x ∈ (if c = 0 then [] else [(i - c, c)]), 1 ≤ x.2 ∧ i - c ≤ x.1 ∧ x.1 + x.2 ≤ T.length ∧ x.1 + x.2 ≤ i ∧ ∀ j, x.1 ≤ j → j < x.1 + x.2 → T.getD j true = false := by
    intro i c hl hc hf
    by_cases h0 : c = 0
    · rw [if_pos h0]; exact ⟨trivial, fun x hx => by simp at hx⟩
    · rw [if_neg h0]
      refine ⟨⟨Nat.le_refl _, trivial⟩, fun x hx => ?_⟩
      simp only [List.mem_singleton] at hx
      subst hx
      exact ⟨by show 1 ≤ c; omega, Nat.le_refl _, by show i - c + c ≤ _; rcases hl with h | h <;> omega, by show i - c + c ≤ _; omega, fun j h1 h2 => hf j h1 (by simp only at h2; omega)⟩
  induction R with
  | nil =>
    intro i c hd hc hf
    have hlen : c = 0 ∨ i ≤ T.length := by
      by_cases h0 : c = 0
      · exact .inl h0
      · refine .inr ?_
        have := hf (i - 1) (by omega) (by omega)
        rcases Nat.lt_or_ge (i - 1) T.length with h | h
        · omega
        · rw [List.getD_eq_getElem?_getD, List.getElem?_eq_none h] at this
          cases this
    obtain ⟨h1, h2⟩ := hfit i c hlen hc hf
    rw [runs]
    exact ⟨h1, fun x hx => ⟨(h2 x hx).1, (h2 x hx).2.1, (h2 x hx).2.2.1, (h2 x hx).2.2.2.2⟩⟩
  | cons b R ih =>
    intro i c hd hc hf
    have hil : i < T.length := by
      rcases Nat.lt_or_ge i T.length with h | h
      · exact h
      · rw [List.drop_eq_nil_of_le h] at hd; cases hd
    have hdc := List.drop_eq_getElem_cons hil
    rw [hd] at hdc
    obtain ⟨hb, hR⟩ := List.cons.inj hdc
    cases b with
    | true =>
      obtain ⟨h1, h2⟩ := hfit i c (.inr (by omega)) hc hf
      obtain ⟨k1, k2⟩ := ih (i + 1) 0 hR.symm (by omega) (fun j h h' => by omega)
      rw [runs]
      refine ⟨?_, fun x hx => ?_⟩
      · by_cases h0 : c = 0
        · rw [if_pos h0, List.nil_append]
          exact k1.mono (by omega)
        · rw [if_neg h0]
          exact ⟨Nat.le_refl _, k1.mono (by show i - c + c ≤ _; omega)⟩
      · rcases List.mem_append.1 hx with hx | hx
        · exact ⟨(h2 x hx).1, (h2 x hx).2.1, (h2 x hx).2.2.1, (h2 x hx).2.2.2.2⟩
        · have := k2 x hx
          exact ⟨this.1, by have := this.2.1; omega, this.2.2.1, this.2.2.2⟩
    | false =>
      rw [runs]
      have := ih (i + 1) (c + 1) hR.symm (by omega) (fun j h h' => by
        by_cases e : j = i
        · subst e
          rw [List.getD_eq_getElem?_getD, List.getElem?_eq_getElem hil, ← hb]; rfl
        · exact hf j (by omega) (by omega))
      rw [show i + 1 - (c + 1) = i - c by omega] at this
      exact this
theorem runs_all (T : List Bool) : Rise 0 (runs T 0 0) ∧ ∀ x ∈ runs T 0 0, 1 ≤ x.2 ∧ x.1 + x.2 ≤ T.length ∧ ∀ j, x.1 ≤ j → j < x.1 + x.2 → T.getD j true = false := by
  obtain ⟨h1, h2⟩ := runs_good T T 0 0 rfl (Nat.le_refl _) (fun j h h' => by omega)
  exact ⟨h1, fun x hx => ⟨(h2 x hx).1, (h2 x hx).2.2.1, (h2 x hx).2.2.2⟩⟩
theorem trimR_good (p : Nat → Prop) (n : Nat) : ∀ (l : List (Nat × Nat)) (lo k : Nat), Rise lo l → (∀ x ∈ l, 1 ≤ x.2 ∧ x.1 + x.2 ≤ n ∧ ∀ j, x.1 ≤ j → j < x.1 + x.2 → p j) →
    Rise lo (trimR l k).1 ∧ ∀ x ∈ (trimR l k).1, 1 ≤ x.2 ∧ x.1 + x.2 ≤ n ∧ ∀ j, x.1 ≤ j → j < x.1 + x.2 → p j := by
  intro l
  induction l with
  | nil => intro lo k h1 h2; exact ⟨trivial, fun x hx => by simp [trimR] at hx⟩
  | cons x l ih =>
    intro lo k h1 h2
    rw [trimR]
    by_cases h0 : k = 0
    · rw [if_pos h0]; exact ⟨trivial, fun x hx => by simp at hx⟩
    · rw [if_neg h0]
      obtain ⟨a1, a2, a3⟩ := h2 x (List.mem_cons_self ..)
      obtain ⟨i1, i2⟩ := ih (x.1 + x.2) (k - min x.2 k) h1.2 (fun y hy => h2 y (List.mem_cons_of_mem _ hy))
      refine ⟨⟨h1.1, i1.mono (by show x.1 + min x.2 k ≤ _; omega)⟩, fun y hy => ?_⟩
      rcases List.mem_cons.1 hy with rfl | hy
      · exact ⟨by show 1 ≤ min x.2 k; omega, by show x.1 + min x.2 k ≤ n; omega, fun j hj hj2 => a3 j hj (by simp only at hj2; omega)⟩
      · exact i2 y hy
/-- Free units are turned. -/
theorem turn1_free : ∀ (m : Nat) (T : List Bool) (i : Nat), i + m ≤ T.length → (∀ j, i ≤ j → j < i + m → T.getD j true = false) →
    ∃ T', turn1 true T i m = some T' ∧ T'.length = T.length ∧ ∀ j, T'.getD j true = (T.getD j true || decide (i ≤ j ∧ j < i + m)) := by
  intro m
  induction m with
  | zero => intro T i _ _; exact ⟨T, rfl, rfl, fun j => by simp; intro h1 h2; omega⟩
  | succ m ih =>
    intro T i hl hf
    have h0 := hf i (Nat.le_refl _) (by omega)
    have hil : i < T.length := by omega
    have h0' : T.getD i false = false := by
      rw [List.getD_eq_getElem?_getD, List.getElem?_eq_getElem hil] at h0 ⊢; exact h0
    have hset : ∀ j, (T.set i true).getD j true = (T.getD j true || decide (j = i)) := fun j => by
      rw [List.getD_eq_getElem?_getD, List.getD_eq_getElem?_getD, List.getElem?_set]
      by_cases e : i = j
      · subst e; simp [hil]
      · rw [if_neg e]; simp [Ne.symm e]
    obtain ⟨T', h1, h2, h3⟩ := ih (T.set i true) (i + 1) (by rw [List.length_set]; omega) (fun j hj hj2 => by rw [hset, hf j (by omega) (by omega)]; simp; omega)
    refine ⟨T', ?_, by rw [h2, List.length_set], fun j => ?_⟩
    · rw [turn1, h0', if_neg (by simp)]
      exact h1
    · rw [h3, hset]
      by_cases e : j = i
      · subst e; simp
      · cases T.getD j true
        · rw [decide_eq_false e]
          simp only [Bool.false_or]
          exact decide_eq_decide.2 (by constructor <;> intro h <;> omega)
        · simp
theorem turnS_free : ∀ (l : List (Nat × Nat)) (T : List Bool) (lo : Nat), Rise lo l → (∀ x ∈ l, 1 ≤ x.2 ∧ x.1 + x.2 ≤ T.length ∧ ∀ j, x.1 ≤ j → j < x.1 + x.2 → T.getD j true = false) →
    ∃ T', turnS true T l = some T' ∧ T'.length = T.length ∧ ∀ j, T'.getD j true = (T.getD j true || l.any fun x => decide (x.1 ≤ j ∧ j < x.1 + x.2)) := by
  intro l
  induction l with
  | nil => intro T lo _ _; exact ⟨T, rfl, rfl, fun j => by simp⟩
  | cons x l ih =>
    intro T lo hr hx
    obtain ⟨a1, a2, a3⟩ := hx x (List.mem_cons_self ..)
    obtain ⟨T1, b1, b2, b3⟩ := turn1_free x.2 T x.1 a2 a3
    have hlow : ∀ (l : List (Nat × Nat)) (lo : Nat), Rise lo l → ∀ y ∈ l, lo ≤ y.1 := by
      intro l
      induction l with
      | nil => intro lo _ y hy; simp at hy
      | cons z l ih =>
        intro lo h y hy
        rcases List.mem_cons.1 hy with rfl | hy
        · exact h.1
        · have := ih _ h.2 y hy
          have := h.1
          omega
    obtain ⟨T', c1, c2, c3⟩ := ih T1 (x.1 + x.2) hr.2 (fun y hy => by
      obtain ⟨d1, d2, d3⟩ := hx y (List.mem_cons_of_mem _ hy)
      have hlo := hlow l _ hr.2 y hy
      refine ⟨d1, by rw [b2]; exact d2, fun j h1 h2 => ?_⟩
      rw [b3, d3 j h1 h2]
      simp
      omega)
    refine ⟨T', ?_, by rw [c2, b2], fun j => ?_⟩
    · rw [turnS, if_neg (by omega), b1]; exact c1
    · rw [c3, b3, List.any_cons, Bool.or_assoc]
/-- What Take takes. -/
def takeS (T : List Bool) (k most : Nat) : Option (List (Nat × Nat) × List Bool) :=
  if 0 < (trimR (runs T 0 0) k).2 ∨ most < (trimR (runs T 0 0) k).1.length then none else (turnS true T (trimR (runs T 0 0) k).1).map fun T' => ((trimR (runs T 0 0) k).1, T')
theorem take_claims (T : List Bool) (k : Nat) : ∃ T', turnS true T (trimR (runs T 0 0) k).1 = some T' ∧ T'.length = T.length ∧ ∀ j, T'.getD j true = (T.getD j true || (trimR (runs T 0 0) k).1.any fun x => decide (x.1 ≤ j ∧ j < x.1 + x.2)) := by
  obtain ⟨h1, h2⟩ := runs_all T
  obtain ⟨h3, h4⟩ := trimR_good (fun j => T.getD j true = false) T.length _ _ k h1 h2
  exact turnS_free _ T 0 h3 h4
theorem runs_length_sum : ∀ (R : List Bool) (i c : Nat), (runs R i c).length ≤ R.length + c ∧ sumN (runs R i c) ≤ R.length + c := by
  intro R
  induction R with
  | nil => intro i c; rw [runs]; split <;> simp [sumN] <;> omega
  | cons b R ih =>
    intro i c
    cases b with
    | true =>
      have := ih (i + 1) 0
      rw [runs]
      split
      · simp; omega
      · rw [List.singleton_append, List.length_cons, sumN_cons]; simp; omega
    | false =>
      have := ih (i + 1) (c + 1)
      rw [runs]
      simp; omega
end Go.Proofs.YtcmcdddnckcpcaaGreatDoor
